/- The slow fallback of ParseFloat: what is left to be shown of each function: printed by program, tied to the loaded functions by the kernel. Conditions: none. -/
import Derived.Test.YtfjflbapojgbhaaGreatDoorWEnv
import Derived.Test.YtfjflbapojgbhaaGreatDoorXGo
import Derived.Test.YtfjflbapojgbhaaGreatDoorYGl
namespace Go.Proofs.YtfjflbapojgbhaaGreatDoor
open Go.X
set_option maxRecDepth 100000
set_option linter.unusedVariables false

/-- The types. -/
def tabD : TAB := (152, ⟨[.slice], false, 24, [.slice none 0 0], .slice 3, 2⟩) :: tabX
theorem tabD_ok : TabOK Tryz.prog tabD := ⟨by kernel_rfl, tabX_ok⟩
/-- The functions that have bodies. -/
def fnsD : List Nat := [71, 85, 86, 94, 107, 108, 109, 110, 119, 126]
theorem fnsD_ok : FnsOK Tryz.prog fnsD := ⟨⟨by kernel_rfl, by kernel_rfl⟩, ⟨by kernel_rfl, by kernel_rfl⟩, ⟨by kernel_rfl, by kernel_rfl⟩, ⟨by kernel_rfl, by kernel_rfl⟩, ⟨by kernel_rfl, by kernel_rfl⟩, ⟨by kernel_rfl, by kernel_rfl⟩, ⟨by kernel_rfl, by kernel_rfl⟩, ⟨by kernel_rfl, by kernel_rfl⟩, ⟨by kernel_rfl, by kernel_rfl⟩, ⟨by kernel_rfl, by kernel_rfl⟩, trivial⟩
noncomputable def envD (privs : List Nat) (n : Nat) : Env := ⟨Tryz.prog, tabD, fnsD, privs, n⟩
theorem envD_ok (privs : List Nat) (n : Nat) : (envD privs n).OK := ⟨tabD_ok, fnsD_ok, by kernel_rfl⟩
/-- internal/strconv.prefixIsLessThan -/
def S126 (bA : Option Addr) (bL bC : Nat) (s : ByteArray) (h : Heap) (R : Value → Heap → Prop) : Prop :=
  ∃ (Iv : List Value → Heap → Prop) (m : List Value → Heap → Nat), Iv [.int .i64 0] h ∧
  ∀ i : Int, ∀ hv, Iv [.int .i64 i] hv →
  cnd (decide (i < ((s.size : Nat) : Int)))
   (cnd (decide (i ≥ ((bL : Nat) : Int)))
    (R (.bool true) hv)
    (∃ b o, bA = some ⟨b, o, none⟩ ∧ 0 ≤ i ∧ i < (bL : Nat) ∧ ∃ x : Int, hcell hv b (o + (Int.toNat i) * 1) = some (.int .u8 x) ∧ 0 ≤ i ∧ i < ((s.size : Nat) : Int) ∧ ∃ xc : UInt8, s[Int.toNat i]? = some xc ∧ cnd (x != ((UInt8.toNat xc : Nat) : Int))
     (∃ b2 o2, bA = some ⟨b2, o2, none⟩ ∧ 0 ≤ i ∧ i < (bL : Nat) ∧ ∃ x2 : Int, hcell hv b2 (o2 + (Int.toNat i) * 1) = some (.int .u8 x2) ∧ 0 ≤ i ∧ i < ((s.size : Nat) : Int) ∧ ∃ xc2 : UInt8, s[Int.toNat i]? = some xc2 ∧ R (.bool (decide (x2 < ((UInt8.toNat xc2 : Nat) : Int)))) hv)
     (Iv [.int .i64 (IntKind.i64.wrap (i + (1 : Int)))] hv ∧ m [.int .i64 (IntKind.i64.wrap (i + (1 : Int)))] hv < m [.int .i64 i] hv)))
   (R (.bool false) hv)
theorem calls126 {h : Heap} {R : Value → Heap → Prop} (bA : Option Addr) (bL bC : Nat) (s : ByteArray) (H : S126 bA bL bC s h R) : CallsH Tryz.prog 126 #[.slice bA bL bC, .string s] h R := by
  have e : S126 bA bL bC s h R = FX (envD [] 32) { loops := [(0, ⟨[0, 1], [5], [], []⟩)], joins := [], blocks := [], draws := [(6, ⟨8, false⟩), (7, ⟨9, false⟩)] } Tryz.f126 (Tryz.f126.body.getD .skip) [.slice bA bL bC, .string s] h R := by kernel_rfl
  exact calls_of_FX (envD_ok _ _) Tryz.func126 (by kernel_rfl) (by kernel_rfl) (by kernel_rfl) (e ▸ H)
/-- internal/strconv.trim -/
def S107 (aP : Option Addr) (h : Heap) (R : Value → Heap → Prop) : Prop :=
  let K := fun (hv3 : Heap) =>
   (∃ b6 o6, aP = some ⟨b6, o6, none⟩ ∧ ∃ x5 : Int, hcell hv3 b6 (o6 + 800) = some (.int .i64 x5) ∧ ∃ Jv : List Value → Heap → Prop,
   ( cnd (x5 == (0 : Int))
    (∃ b7 o7, aP = some ⟨b7, o7, none⟩ ∧ (∃ u, hcell hv3 b7 (o7 + 801) = some u) ∧ hfree hv3 b7 (o7 + 801) = true ∧ let hv4 : Heap := hset hv3 b7 (o7 + 801) (.int .i64 0)
    Jv [] hv4)
    (Jv [] hv3)) ∧
   ∀ hv5, Jv [] hv5 →
   R (.tuple #[]) hv5)
  ∃ (Iv : List Value → Heap → Prop) (m : List Value → Heap → Nat), Iv [] h ∧
  ∀ hv, Iv [] hv →
  ∃ b o, aP = some ⟨b, o, none⟩ ∧ ∃ x : Int, hcell hv b (o + 800) = some (.int .i64 x) ∧ cnd (decide (x > (0 : Int)))
   (∃ b2 o2, aP = some ⟨b2, o2, none⟩ ∧ ∃ x2 : Int, hcell hv b2 (o2 + 800) = some (.int .i64 x2) ∧ ∃ b3 o3, aP = some ⟨b3, o3, none⟩ ∧ 0 ≤ (IntKind.i64.wrap (x2 - (1 : Int))) ∧ (IntKind.i64.wrap (x2 - (1 : Int))) < ((800 : Nat) : Int) ∧ ∃ x3 : Int, hcell hv b3 (o3 + (Int.toNat (IntKind.i64.wrap (x2 - (1 : Int)))) * 1) = some (.int .u8 x3) ∧ cnd (x3 == (48 : Int))
    (∃ b4 o4, aP = some ⟨b4, o4, none⟩ ∧ ∃ x4 : Int, hcell hv b4 (o4 + 800) = some (.int .i64 x4) ∧ ∃ b5 o5, aP = some ⟨b5, o5, none⟩ ∧ (∃ u, hcell hv b5 (o5 + 800) = some u) ∧ hfree hv b5 (o5 + 800) = true ∧ let hv2 : Heap := hset hv b5 (o5 + 800) (.int .i64 (IntKind.i64.wrap (x4 - (1 : Int))))
    Iv [] hv2 ∧ m [] hv2 < m [] hv)
    (K hv))
   (K hv)
theorem calls107 {h : Heap} {R : Value → Heap → Prop} (aP : Option Addr) (H : S107 aP h R) : CallsH Tryz.prog 107 #[.pointer aP] h R := by
  have e : S107 aP h R = FX (envD [] 35) { loops := [(0, ⟨[0], [], [], []⟩)], joins := [(31, ⟨[], [], [], []⟩)], blocks := [], draws := [(0, ⟨18, false⟩)] } Tryz.f107 (Tryz.f107.body.getD .skip) [.pointer aP] h R := by kernel_rfl
  exact calls_of_FX (envD_ok _ _) Tryz.func107 (by kernel_rfl) (by kernel_rfl) (by kernel_rfl) (e ▸ H)
/-- internal/strconv.leftShift -/
def S108 (aP : Option Addr) (k : Int) (h : Heap) (R : Value → Heap → Prop) : Prop :=
  ∃ (xA : Option Addr) (xL xC : Nat), hcell h 12 0 = some (.slice xA xL xC) ∧ ∃ b o, xA = some ⟨b, o, none⟩ ∧ 0 ≤ k ∧ k < (xL : Nat) ∧ ∃ x : Int, hcell h b (o + (Int.toNat k) * 2) = some (.int .i64 x) ∧ ∃ b2 o2, aP = some ⟨b2, o2, none⟩ ∧ ∃ b3 o3, aP = some ⟨b3, o3, none⟩ ∧ ∃ x2 : Int, hcell h b3 (o3 + 800) = some (.int .i64 x2) ∧ 0 ≤ x2 ∧ x2 ≤ ((800 : Nat) : Int) ∧ 0 ≤ (0 : Int) ∧ (0 : Int) ≤ (((Int.toNat x2) : Nat) : Int) ∧ ∃ (xA2 : Option Addr) (xL2 xC2 : Nat), hcell h 12 0 = some (.slice xA2 xL2 xC2) ∧ ∃ b4 o4, xA2 = some ⟨b4, o4, none⟩ ∧ 0 ≤ k ∧ k < (xL2 : Nat) ∧ ∃ x3 : ByteArray, hcell h b4 ((o4 + (Int.toNat k) * 2) + 1) = some (.string x3) ∧ callX Tryz.prog 126 #[.slice (some (if 800 = (Int.toNat (0 : Int)) then (⟨b2, o2, none⟩ : Addr) else Addr.add (⟨b2, o2, none⟩ : Addr) ((Int.toNat (0 : Int)) * 1))) ((Int.toNat x2) - (Int.toNat (0 : Int))) (800 - (Int.toNat (0 : Int))), .string x3] h [] fun v hv =>
  ∃ r : Bool, v = .bool r ∧
  Fr [] h hv ∧
  ∃ Jv : List Value → Heap → Prop,
  ( cnd r
   (Jv [.int .i64 (IntKind.i64.wrap (x - (1 : Int)))] hv)
   (Jv [.int .i64 x] hv)) ∧
  ∀ delta : Int, ∀ hv2, Jv [.int .i64 delta] hv2 →
  ∃ b5 o5, aP = some ⟨b5, o5, none⟩ ∧ ∃ x4 : Int, hcell hv2 b5 (o5 + 800) = some (.int .i64 x4) ∧ ∃ b6 o6, aP = some ⟨b6, o6, none⟩ ∧ ∃ x5 : Int, hcell hv2 b6 (o6 + 800) = some (.int .i64 x5) ∧ ∃ (Iv : List Value → Heap → Prop) (m : List Value → Heap → Nat), Iv [.int .i64 (IntKind.i64.wrap (x4 - (1 : Int))), .int .i64 (IntKind.i64.wrap (x5 + delta)), .int .u64 0] hv2 ∧
  ∀ r2 : Int, ∀ w : Int, ∀ n : Int, ∀ hv3, Iv [.int .i64 r2, .int .i64 w, .int .u64 n] hv3 →
  cnd (decide (r2 ≥ (0 : Int)))
   (∃ b7 o7, aP = some ⟨b7, o7, none⟩ ∧ 0 ≤ r2 ∧ r2 < ((800 : Nat) : Int) ∧ ∃ x6 : Int, hcell hv3 b7 (o7 + (Int.toNat r2) * 1) = some (.int .u8 x6) ∧ 0 ≤ k ∧ (10 : Int) ≠ 0 ∧ ∃ Jv2 : List Value → Heap → Prop,
   ( cnd (decide ((IntKind.i64.wrap (w - (1 : Int))) < (800 : Int)))
    (∃ b8 o8, aP = some ⟨b8, o8, none⟩ ∧ 0 ≤ (IntKind.i64.wrap (w - (1 : Int))) ∧ (IntKind.i64.wrap (w - (1 : Int))) < ((800 : Nat) : Int) ∧ (∃ u, hcell hv3 b8 (o8 + (Int.toNat (IntKind.i64.wrap (w - (1 : Int)))) * 1) = some u) ∧ hfree hv3 b8 (o8 + (Int.toNat (IntKind.i64.wrap (w - (1 : Int)))) * 1) = true ∧ let hv4 : Heap := hset hv3 b8 (o8 + (Int.toNat (IntKind.i64.wrap (w - (1 : Int)))) * 1) (.int .u8 (IntKind.u8.wrap (IntKind.u64.wrap ((IntKind.u64.wrap ((IntKind.u64.wrap (n + (IntKind.u64.wrap ((IntKind.u64.wrap ((IntKind.u64.wrap x6) - (48 : Int))) * 2 ^ (min (Int.toNat k) 64))))) - (IntKind.u64.wrap ((10 : Int) * (IntKind.u64.wrap (Int.tdiv (IntKind.u64.wrap (n + (IntKind.u64.wrap ((IntKind.u64.wrap ((IntKind.u64.wrap x6) - (48 : Int))) * 2 ^ (min (Int.toNat k) 64))))) (10 : Int))))))) + (48 : Int)))))
    Jv2 [] hv4)
    (∃ Jv3 : List Value → Heap → Prop,
    ( cnd ((IntKind.u64.wrap ((IntKind.u64.wrap (n + (IntKind.u64.wrap ((IntKind.u64.wrap ((IntKind.u64.wrap x6) - (48 : Int))) * 2 ^ (min (Int.toNat k) 64))))) - (IntKind.u64.wrap ((10 : Int) * (IntKind.u64.wrap (Int.tdiv (IntKind.u64.wrap (n + (IntKind.u64.wrap ((IntKind.u64.wrap ((IntKind.u64.wrap x6) - (48 : Int))) * 2 ^ (min (Int.toNat k) 64))))) (10 : Int))))))) != (0 : Int))
      (∃ b9 o9, aP = some ⟨b9, o9, none⟩ ∧ (∃ u, hcell hv3 b9 (o9 + 803) = some u) ∧ hfree hv3 b9 (o9 + 803) = true ∧ let hv5 : Heap := hset hv3 b9 (o9 + 803) (.bool true)
      Jv3 [] hv5)
      (Jv3 [] hv3)) ∧
    ∀ hv6, Jv3 [] hv6 →
    Jv2 [] hv6)) ∧
   ∀ hv7, Jv2 [] hv7 →
   Iv [.int .i64 (IntKind.i64.wrap (r2 - (1 : Int))), .int .i64 (IntKind.i64.wrap (w - (1 : Int))), .int .u64 (IntKind.u64.wrap (Int.tdiv (IntKind.u64.wrap (n + (IntKind.u64.wrap ((IntKind.u64.wrap ((IntKind.u64.wrap x6) - (48 : Int))) * 2 ^ (min (Int.toNat k) 64))))) (10 : Int)))] hv7 ∧ m [.int .i64 (IntKind.i64.wrap (r2 - (1 : Int))), .int .i64 (IntKind.i64.wrap (w - (1 : Int))), .int .u64 (IntKind.u64.wrap (Int.tdiv (IntKind.u64.wrap (n + (IntKind.u64.wrap ((IntKind.u64.wrap ((IntKind.u64.wrap x6) - (48 : Int))) * 2 ^ (min (Int.toNat k) 64))))) (10 : Int)))] hv7 < m [.int .i64 r2, .int .i64 w, .int .u64 n] hv3)
   (∃ (Iv2 : List Value → Heap → Prop) (m2 : List Value → Heap → Nat), Iv2 [.int .i64 w, .int .u64 n] hv3 ∧
   ∀ w2 : Int, ∀ n2 : Int, ∀ hv8, Iv2 [.int .i64 w2, .int .u64 n2] hv8 →
   cnd (decide (n2 > (0 : Int)))
    ((10 : Int) ≠ 0 ∧ ∃ Jv4 : List Value → Heap → Prop,
    ( cnd (decide ((IntKind.i64.wrap (w2 - (1 : Int))) < (800 : Int)))
     (∃ b10 o10, aP = some ⟨b10, o10, none⟩ ∧ 0 ≤ (IntKind.i64.wrap (w2 - (1 : Int))) ∧ (IntKind.i64.wrap (w2 - (1 : Int))) < ((800 : Nat) : Int) ∧ (∃ u, hcell hv8 b10 (o10 + (Int.toNat (IntKind.i64.wrap (w2 - (1 : Int)))) * 1) = some u) ∧ hfree hv8 b10 (o10 + (Int.toNat (IntKind.i64.wrap (w2 - (1 : Int)))) * 1) = true ∧ let hv9 : Heap := hset hv8 b10 (o10 + (Int.toNat (IntKind.i64.wrap (w2 - (1 : Int)))) * 1) (.int .u8 (IntKind.u8.wrap (IntKind.u64.wrap ((IntKind.u64.wrap (n2 - (IntKind.u64.wrap ((10 : Int) * (IntKind.u64.wrap (Int.tdiv n2 (10 : Int))))))) + (48 : Int)))))
     Jv4 [] hv9)
     (∃ Jv5 : List Value → Heap → Prop,
     ( cnd ((IntKind.u64.wrap (n2 - (IntKind.u64.wrap ((10 : Int) * (IntKind.u64.wrap (Int.tdiv n2 (10 : Int))))))) != (0 : Int))
       (∃ b11 o11, aP = some ⟨b11, o11, none⟩ ∧ (∃ u, hcell hv8 b11 (o11 + 803) = some u) ∧ hfree hv8 b11 (o11 + 803) = true ∧ let hv10 : Heap := hset hv8 b11 (o11 + 803) (.bool true)
       Jv5 [] hv10)
       (Jv5 [] hv8)) ∧
     ∀ hv11, Jv5 [] hv11 →
     Jv4 [] hv11)) ∧
    ∀ hv12, Jv4 [] hv12 →
    Iv2 [.int .i64 (IntKind.i64.wrap (w2 - (1 : Int))), .int .u64 (IntKind.u64.wrap (Int.tdiv n2 (10 : Int)))] hv12 ∧ m2 [.int .i64 (IntKind.i64.wrap (w2 - (1 : Int))), .int .u64 (IntKind.u64.wrap (Int.tdiv n2 (10 : Int)))] hv12 < m2 [.int .i64 w2, .int .u64 n2] hv8)
    (∃ b12 o12, aP = some ⟨b12, o12, none⟩ ∧ ∃ x7 : Int, hcell hv8 b12 (o12 + 800) = some (.int .i64 x7) ∧ ∃ b13 o13, aP = some ⟨b13, o13, none⟩ ∧ (∃ u, hcell hv8 b13 (o13 + 800) = some u) ∧ hfree hv8 b13 (o13 + 800) = true ∧ let hv13 : Heap := hset hv8 b13 (o13 + 800) (.int .i64 (IntKind.i64.wrap (x7 + delta)))
    ∃ b14 o14, aP = some ⟨b14, o14, none⟩ ∧ ∃ x8 : Int, hcell hv13 b14 (o14 + 800) = some (.int .i64 x8) ∧ ∃ Jv6 : List Value → Heap → Prop,
    ( cnd (decide (x8 ≥ (800 : Int)))
     (∃ b15 o15, aP = some ⟨b15, o15, none⟩ ∧ (∃ u, hcell hv13 b15 (o15 + 800) = some u) ∧ hfree hv13 b15 (o15 + 800) = true ∧ let hv14 : Heap := hset hv13 b15 (o15 + 800) (.int .i64 800)
     Jv6 [] hv14)
     (Jv6 [] hv13)) ∧
    ∀ hv15, Jv6 [] hv15 →
    ∃ b16 o16, aP = some ⟨b16, o16, none⟩ ∧ ∃ x9 : Int, hcell hv15 b16 (o16 + 801) = some (.int .i64 x9) ∧ ∃ b17 o17, aP = some ⟨b17, o17, none⟩ ∧ (∃ u, hcell hv15 b17 (o17 + 801) = some u) ∧ hfree hv15 b17 (o17 + 801) = true ∧ let hv16 : Heap := hset hv15 b17 (o17 + 801) (.int .i64 (IntKind.i64.wrap (x9 + delta)))
    callX Tryz.prog 107 #[.pointer aP] hv16 [] fun v2 hv17 =>
    v2 = .tuple #[] ∧
    R (.tuple #[]) hv17))
theorem calls108 {h : Heap} {R : Value → Heap → Prop} (aP : Option Addr) (k : Int) (H : S108 aP k h R) : CallsH Tryz.prog 108 #[.pointer aP, .int .u64 k] h R := by
  have e : S108 aP k h R = FX (envD [] 137) { loops := [(0, ⟨[0, 1, 4], [5, 6, 7], [], []⟩), (2, ⟨[0, 4], [6, 7], [], []⟩)], joins := [(30, ⟨[0, 1], [4], [], []⟩), (70, ⟨[0, 1, 4, 5, 6, 8], [], [], []⟩), (80, ⟨[0, 1, 4, 5, 6, 8], [], [], []⟩), (96, ⟨[0, 4, 6, 10], [], [], []⟩), (106, ⟨[0, 4, 6, 10], [], [], []⟩), (123, ⟨[0, 4], [], [], []⟩)], blocks := [], draws := [(1, ⟨14, false⟩)] } Tryz.f108 (Tryz.f108.body.getD .skip) [.pointer aP, .int .u64 k] h R := by kernel_rfl
  exact calls_of_FX (envD_ok _ _) Tryz.func108 (by kernel_rfl) (by kernel_rfl) (by kernel_rfl) (e ▸ H)
/-- internal/strconv.rightShift -/
def S109 (aP : Option Addr) (k : Int) (h : Heap) (R : Value → Heap → Prop) : Prop :=
  ∃ Jv : List Value → Heap → Prop,
  ( ∃ (Iv : List Value → Heap → Prop) (m : List Value → Heap → Nat), Iv [.int .i64 0, .int .u64 0] h ∧
  ∀ r : Int, ∀ n : Int, ∀ hv, Iv [.int .i64 r, .int .u64 n] hv →
  0 ≤ k ∧ cnd ((Int.fdiv n (2 ^ (min (Int.toNat k) 64))) == (0 : Int))
   (∃ b o, aP = some ⟨b, o, none⟩ ∧ ∃ x : Int, hcell hv b (o + 800) = some (.int .i64 x) ∧ cnd (decide (r ≥ x))
    (cnd (n == (0 : Int))
     (∃ b2 o2, aP = some ⟨b2, o2, none⟩ ∧ (∃ u, hcell hv b2 (o2 + 800) = some u) ∧ hfree hv b2 (o2 + 800) = true ∧ let hv2 : Heap := hset hv b2 (o2 + 800) (.int .i64 0)
     R (.tuple #[]) hv2)
     (∃ (Iv2 : List Value → Heap → Prop) (m2 : List Value → Heap → Nat), Iv2 [.int .i64 r, .int .u64 n] hv ∧
     ∀ r2 : Int, ∀ n2 : Int, ∀ hv3, Iv2 [.int .i64 r2, .int .u64 n2] hv3 →
     0 ≤ k ∧ cnd ((Int.fdiv n2 (2 ^ (min (Int.toNat k) 64))) == (0 : Int))
      (Iv2 [.int .i64 (IntKind.i64.wrap (r2 + (1 : Int))), .int .u64 (IntKind.u64.wrap (n2 * (10 : Int)))] hv3 ∧ m2 [.int .i64 (IntKind.i64.wrap (r2 + (1 : Int))), .int .u64 (IntKind.u64.wrap (n2 * (10 : Int)))] hv3 < m2 [.int .i64 r2, .int .u64 n2] hv3)
      (Jv [.int .i64 r2, .int .u64 n2] hv3)))
    (∃ b3 o3, aP = some ⟨b3, o3, none⟩ ∧ 0 ≤ r ∧ r < ((800 : Nat) : Int) ∧ ∃ x2 : Int, hcell hv b3 (o3 + (Int.toNat r) * 1) = some (.int .u8 x2) ∧ Iv [.int .i64 (IntKind.i64.wrap (r + (1 : Int))), .int .u64 (IntKind.u64.wrap ((IntKind.u64.wrap ((IntKind.u64.wrap (n * (10 : Int))) + (IntKind.u64.wrap x2))) - (48 : Int)))] hv ∧ m [.int .i64 (IntKind.i64.wrap (r + (1 : Int))), .int .u64 (IntKind.u64.wrap ((IntKind.u64.wrap ((IntKind.u64.wrap (n * (10 : Int))) + (IntKind.u64.wrap x2))) - (48 : Int)))] hv < m [.int .i64 r, .int .u64 n] hv))
   (Jv [.int .i64 r, .int .u64 n] hv)) ∧
  ∀ r3 : Int, ∀ n3 : Int, ∀ hv4, Jv [.int .i64 r3, .int .u64 n3] hv4 →
  ∃ b4 o4, aP = some ⟨b4, o4, none⟩ ∧ ∃ x3 : Int, hcell hv4 b4 (o4 + 801) = some (.int .i64 x3) ∧ ∃ b5 o5, aP = some ⟨b5, o5, none⟩ ∧ (∃ u, hcell hv4 b5 (o5 + 801) = some u) ∧ hfree hv4 b5 (o5 + 801) = true ∧ let hv5 : Heap := hset hv4 b5 (o5 + 801) (.int .i64 (IntKind.i64.wrap (x3 - (IntKind.i64.wrap (r3 - (1 : Int))))))
  0 ≤ k ∧ ∃ (Iv3 : List Value → Heap → Prop) (m3 : List Value → Heap → Nat), Iv3 [.int .i64 r3, .int .i64 0, .int .u64 n3] hv5 ∧
  ∀ r4 : Int, ∀ w : Int, ∀ n4 : Int, ∀ hv6, Iv3 [.int .i64 r4, .int .i64 w, .int .u64 n4] hv6 →
  ∃ b6 o6, aP = some ⟨b6, o6, none⟩ ∧ ∃ x4 : Int, hcell hv6 b6 (o6 + 800) = some (.int .i64 x4) ∧ cnd (decide (r4 < x4))
   (∃ b7 o7, aP = some ⟨b7, o7, none⟩ ∧ 0 ≤ r4 ∧ r4 < ((800 : Nat) : Int) ∧ ∃ x5 : Int, hcell hv6 b7 (o7 + (Int.toNat r4) * 1) = some (.int .u8 x5) ∧ 0 ≤ k ∧ ∃ b8 o8, aP = some ⟨b8, o8, none⟩ ∧ 0 ≤ w ∧ w < ((800 : Nat) : Int) ∧ (∃ u, hcell hv6 b8 (o8 + (Int.toNat w) * 1) = some u) ∧ hfree hv6 b8 (o8 + (Int.toNat w) * 1) = true ∧ let hv7 : Heap := hset hv6 b8 (o8 + (Int.toNat w) * 1) (.int .u8 (IntKind.u8.wrap (IntKind.u64.wrap ((Int.fdiv n4 (2 ^ (min (Int.toNat k) 64))) + (48 : Int)))))
   Iv3 [.int .i64 (IntKind.i64.wrap (r4 + (1 : Int))), .int .i64 (IntKind.i64.wrap (w + (1 : Int))), .int .u64 (IntKind.u64.wrap ((IntKind.u64.wrap ((IntKind.u64.wrap ((bits .and .u64 n4 (IntKind.u64.wrap ((IntKind.u64.wrap ((1 : Int) * 2 ^ (min (Int.toNat k) 64))) - (1 : Int)))) * (10 : Int))) + (IntKind.u64.wrap x5))) - (48 : Int)))] hv7 ∧ m3 [.int .i64 (IntKind.i64.wrap (r4 + (1 : Int))), .int .i64 (IntKind.i64.wrap (w + (1 : Int))), .int .u64 (IntKind.u64.wrap ((IntKind.u64.wrap ((IntKind.u64.wrap ((bits .and .u64 n4 (IntKind.u64.wrap ((IntKind.u64.wrap ((1 : Int) * 2 ^ (min (Int.toNat k) 64))) - (1 : Int)))) * (10 : Int))) + (IntKind.u64.wrap x5))) - (48 : Int)))] hv7 < m3 [.int .i64 r4, .int .i64 w, .int .u64 n4] hv6)
   (∃ (Iv4 : List Value → Heap → Prop) (m4 : List Value → Heap → Nat), Iv4 [.int .i64 w, .int .u64 n4] hv6 ∧
   ∀ w2 : Int, ∀ n5 : Int, ∀ hv8, Iv4 [.int .i64 w2, .int .u64 n5] hv8 →
   cnd (decide (n5 > (0 : Int)))
    (0 ≤ k ∧ ∃ Jv2 : List Value → Heap → Prop,
    ( cnd (decide (w2 < (800 : Int)))
     (∃ b9 o9, aP = some ⟨b9, o9, none⟩ ∧ 0 ≤ w2 ∧ w2 < ((800 : Nat) : Int) ∧ (∃ u, hcell hv8 b9 (o9 + (Int.toNat w2) * 1) = some u) ∧ hfree hv8 b9 (o9 + (Int.toNat w2) * 1) = true ∧ let hv9 : Heap := hset hv8 b9 (o9 + (Int.toNat w2) * 1) (.int .u8 (IntKind.u8.wrap (IntKind.u64.wrap ((Int.fdiv n5 (2 ^ (min (Int.toNat k) 64))) + (48 : Int)))))
     Jv2 [.int .i64 (IntKind.i64.wrap (w2 + (1 : Int)))] hv9)
     (∃ Jv3 : List Value → Heap → Prop,
     ( cnd (decide ((Int.fdiv n5 (2 ^ (min (Int.toNat k) 64))) > (0 : Int)))
       (∃ b10 o10, aP = some ⟨b10, o10, none⟩ ∧ (∃ u, hcell hv8 b10 (o10 + 803) = some u) ∧ hfree hv8 b10 (o10 + 803) = true ∧ let hv10 : Heap := hset hv8 b10 (o10 + 803) (.bool true)
       Jv3 [] hv10)
       (Jv3 [] hv8)) ∧
     ∀ hv11, Jv3 [] hv11 →
     Jv2 [.int .i64 w2] hv11)) ∧
    ∀ w3 : Int, ∀ hv12, Jv2 [.int .i64 w3] hv12 →
    Iv4 [.int .i64 w3, .int .u64 (IntKind.u64.wrap ((bits .and .u64 n5 (IntKind.u64.wrap ((IntKind.u64.wrap ((1 : Int) * 2 ^ (min (Int.toNat k) 64))) - (1 : Int)))) * (10 : Int)))] hv12 ∧ m4 [.int .i64 w3, .int .u64 (IntKind.u64.wrap ((bits .and .u64 n5 (IntKind.u64.wrap ((IntKind.u64.wrap ((1 : Int) * 2 ^ (min (Int.toNat k) 64))) - (1 : Int)))) * (10 : Int)))] hv12 < m4 [.int .i64 w2, .int .u64 n5] hv8)
    (∃ b11 o11, aP = some ⟨b11, o11, none⟩ ∧ (∃ u, hcell hv8 b11 (o11 + 800) = some u) ∧ hfree hv8 b11 (o11 + 800) = true ∧ let hv13 : Heap := hset hv8 b11 (o11 + 800) (.int .i64 w2)
    callX Tryz.prog 107 #[.pointer aP] hv13 [] fun v hv14 =>
    v = .tuple #[] ∧
    R (.tuple #[]) hv14))
theorem calls109 {h : Heap} {R : Value → Heap → Prop} (aP : Option Addr) (k : Int) (H : S109 aP k h R) : CallsH Tryz.prog 109 #[.pointer aP, .int .u64 k] h R := by
  have e : S109 aP k h R = FX (envD [] 130) { loops := [(0, ⟨[0, 1, 5], [4, 6], [], []⟩), (2, ⟨[0, 1, 5], [4, 6], [], []⟩), (4, ⟨[0, 1, 8], [4, 5, 6], [], []⟩), (6, ⟨[0, 1, 8], [5, 6], [], []⟩)], joins := [(106, ⟨[0, 1, 6, 8], [5], [], []⟩), (118, ⟨[0, 1, 5, 6, 8], [], [], []⟩)], blocks := [(0, ⟨[0, 1, 5], [4, 6], [], []⟩)], draws := [] } Tryz.f109 (Tryz.f109.body.getD .skip) [.pointer aP, .int .u64 k] h R := by kernel_rfl
  exact calls_of_FX (envD_ok _ _) Tryz.func109 (by kernel_rfl) (by kernel_rfl) (by kernel_rfl) (e ▸ H)
/-- internal/strconv.shouldRoundUp -/
def S110 (aP : Option Addr) (nd : Int) (h : Heap) (R : Value → Heap → Prop) : Prop :=
  cnd (decide (nd < (0 : Int)))
   (R (.bool false) h)
   (∃ b o, aP = some ⟨b, o, none⟩ ∧ ∃ x : Int, hcell h b (o + 800) = some (.int .i64 x) ∧ cnd (decide (nd ≥ x))
    (R (.bool false) h)
    (let K := fun (hv : Heap) =>
     (∃ b6 o6, aP = some ⟨b6, o6, none⟩ ∧ 0 ≤ nd ∧ nd < ((800 : Nat) : Int) ∧ ∃ x6 : Int, hcell hv b6 (o6 + (Int.toNat nd) * 1) = some (.int .u8 x6) ∧ R (.bool (decide (x6 ≥ (53 : Int)))) hv)
    ∃ b2 o2, aP = some ⟨b2, o2, none⟩ ∧ 0 ≤ nd ∧ nd < ((800 : Nat) : Int) ∧ ∃ x2 : Int, hcell h b2 (o2 + (Int.toNat nd) * 1) = some (.int .u8 x2) ∧ cnd (x2 == (53 : Int))
     (∃ b3 o3, aP = some ⟨b3, o3, none⟩ ∧ ∃ x3 : Int, hcell h b3 (o3 + 800) = some (.int .i64 x3) ∧ cnd ((IntKind.i64.wrap (nd + (1 : Int))) == x3)
      (∃ b4 o4, aP = some ⟨b4, o4, none⟩ ∧ ∃ x4 : Bool, hcell h b4 (o4 + 803) = some (.bool x4) ∧ cnd x4
       (R (.bool true) h)
       (cnd (decide (nd > (0 : Int)))
        (∃ b5 o5, aP = some ⟨b5, o5, none⟩ ∧ 0 ≤ (IntKind.i64.wrap (nd - (1 : Int))) ∧ (IntKind.i64.wrap (nd - (1 : Int))) < ((800 : Nat) : Int) ∧ ∃ x5 : Int, hcell h b5 (o5 + (Int.toNat (IntKind.i64.wrap (nd - (1 : Int)))) * 1) = some (.int .u8 x5) ∧ (2 : Int) ≠ 0 ∧ R (.bool ((Int.tmod (IntKind.u8.wrap (x5 - (48 : Int))) (2 : Int)) != (0 : Int))) h)
        (R (.bool false) h)))
      (K h))
     (K h)))
theorem calls110 {h : Heap} {R : Value → Heap → Prop} (aP : Option Addr) (nd : Int) (H : S110 aP nd h R) : CallsH Tryz.prog 110 #[.pointer aP, .int .i64 nd] h R := by
  have e : S110 aP nd h R = FX (envD [] 56) { loops := [], joins := [], blocks := [], draws := [] } Tryz.f110 (Tryz.f110.body.getD .skip) [.pointer aP, .int .i64 nd] h R := by kernel_rfl
  exact calls_of_FX (envD_ok _ _) Tryz.func110 (by kernel_rfl) (by kernel_rfl) (by kernel_rfl) (e ▸ H)
/-- (*internal/strconv.decimal).RoundedInteger -/
def S119 (aP : Option Addr) (h : Heap) (R : Value → Heap → Prop) : Prop :=
  ∃ b o, aP = some ⟨b, o, none⟩ ∧ ∃ x : Int, hcell h b (o + 801) = some (.int .i64 x) ∧ cnd (decide (x > (20 : Int)))
   (R (.int .u64 18446744073709551615) h)
   (let K := fun (i2 : Int) (n2 : Int) (hv2 : Heap) =>
    (∃ (Iv2 : List Value → Heap → Prop) (m2 : List Value → Heap → Nat), Iv2 [.int .i64 i2, .int .u64 n2] hv2 ∧
    ∀ i3 : Int, ∀ n3 : Int, ∀ hv3, Iv2 [.int .i64 i3, .int .u64 n3] hv3 →
    ∃ b5 o5, aP = some ⟨b5, o5, none⟩ ∧ ∃ x5 : Int, hcell hv3 b5 (o5 + 801) = some (.int .i64 x5) ∧ cnd (decide (i3 < x5))
     (Iv2 [.int .i64 (IntKind.i64.wrap (i3 + (1 : Int))), .int .u64 (IntKind.u64.wrap (n3 * (10 : Int)))] hv3 ∧ m2 [.int .i64 (IntKind.i64.wrap (i3 + (1 : Int))), .int .u64 (IntKind.u64.wrap (n3 * (10 : Int)))] hv3 < m2 [.int .i64 i3, .int .u64 n3] hv3)
     (∃ b6 o6, aP = some ⟨b6, o6, none⟩ ∧ ∃ x6 : Int, hcell hv3 b6 (o6 + 801) = some (.int .i64 x6) ∧ callX Tryz.prog 110 #[.pointer aP, .int .i64 x6] hv3 [] fun v hv4 =>
     ∃ r : Bool, v = .bool r ∧
     ∃ Jv : List Value → Heap → Prop,
     ( cnd r
      (Jv [.int .u64 (IntKind.u64.wrap (n3 + (1 : Int)))] hv4)
      (Jv [.int .u64 n3] hv4)) ∧
     ∀ n4 : Int, ∀ hv5, Jv [.int .u64 n4] hv5 →
     R (.int .u64 n4) hv5))
   ∃ (Iv : List Value → Heap → Prop) (m : List Value → Heap → Nat), Iv [.int .i64 0, .int .u64 0] h ∧
   ∀ i : Int, ∀ n : Int, ∀ hv, Iv [.int .i64 i, .int .u64 n] hv →
   ∃ b2 o2, aP = some ⟨b2, o2, none⟩ ∧ ∃ x2 : Int, hcell hv b2 (o2 + 801) = some (.int .i64 x2) ∧ cnd (decide (i < x2))
    (∃ b3 o3, aP = some ⟨b3, o3, none⟩ ∧ ∃ x3 : Int, hcell hv b3 (o3 + 800) = some (.int .i64 x3) ∧ cnd (decide (i < x3))
     (∃ b4 o4, aP = some ⟨b4, o4, none⟩ ∧ 0 ≤ i ∧ i < ((800 : Nat) : Int) ∧ ∃ x4 : Int, hcell hv b4 (o4 + (Int.toNat i) * 1) = some (.int .u8 x4) ∧ Iv [.int .i64 (IntKind.i64.wrap (i + (1 : Int))), .int .u64 (IntKind.u64.wrap ((IntKind.u64.wrap (n * (10 : Int))) + (IntKind.u64.wrap (IntKind.u8.wrap (x4 - (48 : Int))))))] hv ∧ m [.int .i64 (IntKind.i64.wrap (i + (1 : Int))), .int .u64 (IntKind.u64.wrap ((IntKind.u64.wrap (n * (10 : Int))) + (IntKind.u64.wrap (IntKind.u8.wrap (x4 - (48 : Int))))))] hv < m [.int .i64 i, .int .u64 n] hv)
     (K i n hv))
    (K i n hv))
theorem calls119 {h : Heap} {R : Value → Heap → Prop} (aP : Option Addr) (H : S119 aP h R) : CallsH Tryz.prog 119 #[.pointer aP] h R := by
  have e : S119 aP h R = FX (envD [] 56) { loops := [(0, ⟨[0], [3, 4], [], []⟩), (2, ⟨[0], [3, 4], [], []⟩)], joins := [(52, ⟨[], [4], [], []⟩)], blocks := [], draws := [] } Tryz.f119 (Tryz.f119.body.getD .skip) [.pointer aP] h R := by kernel_rfl
  exact calls_of_FX (envD_ok _ _) Tryz.func119 (by kernel_rfl) (by kernel_rfl) (by kernel_rfl) (e ▸ H)
/-- (*internal/strconv.decimal).Shift -/
def S71 (aP : Option Addr) (k : Int) (h : Heap) (R : Value → Heap → Prop) : Prop :=
  ∃ b o, aP = some ⟨b, o, none⟩ ∧ ∃ x : Int, hcell h b (o + 800) = some (.int .i64 x) ∧ ∃ Jv : List Value → Heap → Prop,
  ( cnd (x == (0 : Int))
   (Jv [] h)
   (∃ Jv2 : List Value → Heap → Prop,
   ( cnd (decide (k > (0 : Int)))
     (∃ (Iv : List Value → Heap → Prop) (m : List Value → Heap → Nat), Iv [.int .i64 k] h ∧
     ∀ k2 : Int, ∀ hv, Iv [.int .i64 k2] hv →
     cnd (decide (k2 > (60 : Int)))
      (callX Tryz.prog 108 #[.pointer aP, .int .u64 60] hv [] fun v hv2 =>
      v = .tuple #[] ∧
      Iv [.int .i64 (IntKind.i64.wrap (k2 - (60 : Int)))] hv2 ∧ m [.int .i64 (IntKind.i64.wrap (k2 - (60 : Int)))] hv2 < m [.int .i64 k2] hv)
      (callX Tryz.prog 108 #[.pointer aP, .int .u64 (IntKind.u64.wrap k2)] hv [] fun v2 hv3 =>
      v2 = .tuple #[] ∧
      Jv2 [] hv3))
     (∃ Jv3 : List Value → Heap → Prop,
     ( cnd (decide (k < (0 : Int)))
      (∃ (Iv2 : List Value → Heap → Prop) (m2 : List Value → Heap → Nat), Iv2 [.int .i64 k] h ∧
      ∀ k3 : Int, ∀ hv4, Iv2 [.int .i64 k3] hv4 →
      cnd (decide (k3 < ((-60) : Int)))
       (callX Tryz.prog 109 #[.pointer aP, .int .u64 60] hv4 [] fun v3 hv5 =>
       v3 = .tuple #[] ∧
       Iv2 [.int .i64 (IntKind.i64.wrap (k3 + (60 : Int)))] hv5 ∧ m2 [.int .i64 (IntKind.i64.wrap (k3 + (60 : Int)))] hv5 < m2 [.int .i64 k3] hv4)
       (callX Tryz.prog 109 #[.pointer aP, .int .u64 (IntKind.u64.wrap (IntKind.i64.wrap (0 - k3)))] hv4 [] fun v4 hv6 =>
       v4 = .tuple #[] ∧
       Jv3 [] hv6))
      (Jv3 [] h)) ∧
     ∀ hv7, Jv3 [] hv7 →
     Jv2 [] hv7)) ∧
   ∀ hv8, Jv2 [] hv8 →
   Jv [] hv8)) ∧
  ∀ hv9, Jv [] hv9 →
  R (.tuple #[]) hv9
theorem calls71 {h : Heap} {R : Value → Heap → Prop} (aP : Option Addr) (k : Int) (H : S71 aP k h R) : CallsH Tryz.prog 71 #[.pointer aP, .int .i64 k] h R := by
  have e : S71 aP k h R = FX (envD [] 37) { loops := [(1, ⟨[0], [1], [], []⟩), (3, ⟨[0], [1], [], []⟩)], joins := [(4, ⟨[], [], [], []⟩), (10, ⟨[], [], [], []⟩), (23, ⟨[], [], [], []⟩)], blocks := [], draws := [] } Tryz.f71 (Tryz.f71.body.getD .skip) [.pointer aP, .int .i64 k] h R := by kernel_rfl
  exact calls_of_FX (envD_ok _ _) Tryz.func71 (by kernel_rfl) (by kernel_rfl) (by kernel_rfl) (e ▸ H)
/-- (*internal/strconv.decimal).set -/
def S85 (bP : Option Addr) (s : ByteArray) (h : Heap) (R : Value → Heap → Prop) : Prop :=
  ∃ b o, bP = some ⟨b, o, none⟩ ∧ (∃ u, hcell h b (o + 802) = some u) ∧ hfree h b (o + 802) = true ∧ let hv : Heap := hset h b (o + 802) (.bool false)
  ∃ b2 o2, bP = some ⟨b2, o2, none⟩ ∧ (∃ u, hcell hv b2 (o2 + 803) = some u) ∧ hfree hv b2 (o2 + 803) = true ∧ let hv2 : Heap := hset hv b2 (o2 + 803) (.bool false)
  cnd (decide ((0 : Int) ≥ ((s.size : Nat) : Int)))
   (R (.bool false) hv2)
   (0 ≤ (0 : Int) ∧ (0 : Int) < ((s.size : Nat) : Int) ∧ ∃ xc : UInt8, s[Int.toNat (0 : Int)]? = some xc ∧ ∃ Jv : List Value → Heap → Prop,
   ( cnd (((UInt8.toNat xc : Nat) : Int) == (43 : Int))
    (Jv [.int .i64 (IntKind.i64.wrap ((0 : Int) + (1 : Int)))] hv2)
    (∃ Jv2 : List Value → Heap → Prop,
    ( cnd (((UInt8.toNat xc : Nat) : Int) == (45 : Int))
      (∃ b3 o3, bP = some ⟨b3, o3, none⟩ ∧ (∃ u, hcell hv2 b3 (o3 + 802) = some u) ∧ hfree hv2 b3 (o3 + 802) = true ∧ let hv3 : Heap := hset hv2 b3 (o3 + 802) (.bool true)
      Jv2 [.int .i64 (IntKind.i64.wrap ((0 : Int) + (1 : Int)))] hv3)
      (Jv2 [.int .i64 0] hv2)) ∧
    ∀ i : Int, ∀ hv4, Jv2 [.int .i64 i] hv4 →
    Jv [.int .i64 i] hv4)) ∧
   ∀ i2 : Int, ∀ hv5, Jv [.int .i64 i2] hv5 →
   ∃ Jv3 : List Value → Heap → Prop,
   ( ∃ (Iv : List Value → Heap → Prop) (m : List Value → Heap → Nat), Iv [.int .i64 i2, .bool false, .bool false] hv5 ∧
   ∀ i3 : Int, ∀ sawdot : Bool, ∀ sawdigits : Bool, ∀ hv6, Iv [.int .i64 i3, .bool sawdot, .bool sawdigits] hv6 →
   cnd (decide (i3 < ((s.size : Nat) : Int)))
    (∃ Jv4 : List Value → Heap → Prop,
    ( let K2 := fun (hv15 : Heap) =>
      (Jv3 [.int .i64 i3, .bool sawdot, .bool sawdigits] hv15)
     0 ≤ i3 ∧ i3 < ((s.size : Nat) : Int) ∧ ∃ xc2 : UInt8, s[Int.toNat i3]? = some xc2 ∧ cnd (((UInt8.toNat xc2 : Nat) : Int) == (95 : Int))
      (Jv4 [.bool sawdot, .bool sawdigits] hv6)
      (0 ≤ i3 ∧ i3 < ((s.size : Nat) : Int) ∧ ∃ xc3 : UInt8, s[Int.toNat i3]? = some xc3 ∧ cnd (((UInt8.toNat xc3 : Nat) : Int) == (46 : Int))
       (cnd sawdot
        (R (.bool false) hv6)
        (∃ b4 o4, bP = some ⟨b4, o4, none⟩ ∧ ∃ x : Int, hcell hv6 b4 (o4 + 800) = some (.int .i64 x) ∧ ∃ b5 o5, bP = some ⟨b5, o5, none⟩ ∧ (∃ u, hcell hv6 b5 (o5 + 801) = some u) ∧ hfree hv6 b5 (o5 + 801) = true ∧ let hv7 : Heap := hset hv6 b5 (o5 + 801) (.int .i64 x)
        Jv4 [.bool true, .bool sawdigits] hv7))
       (0 ≤ i3 ∧ i3 < ((s.size : Nat) : Int) ∧ ∃ xc4 : UInt8, s[Int.toNat i3]? = some xc4 ∧ cnd (decide ((48 : Int) ≤ ((UInt8.toNat xc4 : Nat) : Int)))
        (0 ≤ i3 ∧ i3 < ((s.size : Nat) : Int) ∧ ∃ xc5 : UInt8, s[Int.toNat i3]? = some xc5 ∧ cnd (decide (((UInt8.toNat xc5 : Nat) : Int) ≤ (57 : Int)))
         (let K := fun (hv9 : Heap) =>
          (∃ b9 o9, bP = some ⟨b9, o9, none⟩ ∧ ∃ x4 : Int, hcell hv9 b9 (o9 + 800) = some (.int .i64 x4) ∧ ∃ Jv5 : List Value → Heap → Prop,
          ( cnd (decide (x4 < (800 : Int)))
           (∃ b10 o10, bP = some ⟨b10, o10, none⟩ ∧ ∃ x5 : Int, hcell hv9 b10 (o10 + 800) = some (.int .i64 x5) ∧ 0 ≤ i3 ∧ i3 < ((s.size : Nat) : Int) ∧ ∃ xc7 : UInt8, s[Int.toNat i3]? = some xc7 ∧ ∃ b11 o11, bP = some ⟨b11, o11, none⟩ ∧ 0 ≤ x5 ∧ x5 < ((800 : Nat) : Int) ∧ (∃ u, hcell hv9 b11 (o11 + (Int.toNat x5) * 1) = some u) ∧ hfree hv9 b11 (o11 + (Int.toNat x5) * 1) = true ∧ let hv10 : Heap := hset hv9 b11 (o11 + (Int.toNat x5) * 1) (.int .u8 ((UInt8.toNat xc7 : Nat) : Int))
           ∃ b12 o12, bP = some ⟨b12, o12, none⟩ ∧ ∃ x6 : Int, hcell hv10 b12 (o12 + 800) = some (.int .i64 x6) ∧ ∃ b13 o13, bP = some ⟨b13, o13, none⟩ ∧ (∃ u, hcell hv10 b13 (o13 + 800) = some u) ∧ hfree hv10 b13 (o13 + 800) = true ∧ let hv11 : Heap := hset hv10 b13 (o13 + 800) (.int .i64 (IntKind.i64.wrap (x6 + (1 : Int))))
           Jv5 [] hv11)
           (0 ≤ i3 ∧ i3 < ((s.size : Nat) : Int) ∧ ∃ xc8 : UInt8, s[Int.toNat i3]? = some xc8 ∧ ∃ Jv6 : List Value → Heap → Prop,
           ( cnd (((UInt8.toNat xc8 : Nat) : Int) != (48 : Int))
             (∃ b14 o14, bP = some ⟨b14, o14, none⟩ ∧ (∃ u, hcell hv9 b14 (o14 + 803) = some u) ∧ hfree hv9 b14 (o14 + 803) = true ∧ let hv12 : Heap := hset hv9 b14 (o14 + 803) (.bool true)
             Jv6 [] hv12)
             (Jv6 [] hv9)) ∧
           ∀ hv13, Jv6 [] hv13 →
           Jv5 [] hv13)) ∧
          ∀ hv14, Jv5 [] hv14 →
          Jv4 [.bool sawdot, .bool true] hv14)
         0 ≤ i3 ∧ i3 < ((s.size : Nat) : Int) ∧ ∃ xc6 : UInt8, s[Int.toNat i3]? = some xc6 ∧ cnd (((UInt8.toNat xc6 : Nat) : Int) == (48 : Int))
          (∃ b6 o6, bP = some ⟨b6, o6, none⟩ ∧ ∃ x2 : Int, hcell hv6 b6 (o6 + 800) = some (.int .i64 x2) ∧ cnd (x2 == (0 : Int))
           (∃ b7 o7, bP = some ⟨b7, o7, none⟩ ∧ ∃ x3 : Int, hcell hv6 b7 (o7 + 801) = some (.int .i64 x3) ∧ ∃ b8 o8, bP = some ⟨b8, o8, none⟩ ∧ (∃ u, hcell hv6 b8 (o8 + 801) = some u) ∧ hfree hv6 b8 (o8 + 801) = true ∧ let hv8 : Heap := hset hv6 b8 (o8 + 801) (.int .i64 (IntKind.i64.wrap (x3 - (1 : Int))))
           Jv4 [.bool sawdot, .bool true] hv8)
           (K hv6))
          (K hv6))
         (K2 hv6))
        (K2 hv6)))) ∧
    ∀ sawdot2 : Bool, ∀ sawdigits2 : Bool, ∀ hv16, Jv4 [.bool sawdot2, .bool sawdigits2] hv16 →
    Iv [.int .i64 (IntKind.i64.wrap (i3 + (1 : Int))), .bool sawdot2, .bool sawdigits2] hv16 ∧ m [.int .i64 (IntKind.i64.wrap (i3 + (1 : Int))), .bool sawdot2, .bool sawdigits2] hv16 < m [.int .i64 i3, .bool sawdot, .bool sawdigits] hv6)
    (Jv3 [.int .i64 i3, .bool sawdot, .bool sawdigits] hv6)) ∧
   ∀ i4 : Int, ∀ sawdot3 : Bool, ∀ sawdigits3 : Bool, ∀ hv17, Jv3 [.int .i64 i4, .bool sawdot3, .bool sawdigits3] hv17 →
   cnd (!sawdigits3)
    (R (.bool false) hv17)
    (∃ Jv7 : List Value → Heap → Prop,
    ( cnd (!sawdot3)
     (∃ b15 o15, bP = some ⟨b15, o15, none⟩ ∧ ∃ x7 : Int, hcell hv17 b15 (o15 + 800) = some (.int .i64 x7) ∧ ∃ b16 o16, bP = some ⟨b16, o16, none⟩ ∧ (∃ u, hcell hv17 b16 (o16 + 801) = some u) ∧ hfree hv17 b16 (o16 + 801) = true ∧ let hv18 : Heap := hset hv17 b16 (o16 + 801) (.int .i64 x7)
     Jv7 [] hv18)
     (Jv7 [] hv17)) ∧
    ∀ hv19, Jv7 [] hv19 →
    let K7 := fun (i10 : Int) (hv32 : Heap) =>
     (cnd (i10 != ((s.size : Nat) : Int))
      (R (.bool false) hv32)
      (R (.bool true) hv32))
    cnd (decide (i4 < ((s.size : Nat) : Int)))
     (0 ≤ i4 ∧ i4 < ((s.size : Nat) : Int) ∧ ∃ xc9 : UInt8, s[Int.toNat i4]? = some xc9 ∧ callX Tryz.prog 94 #[.int .u8 ((UInt8.toNat xc9 : Nat) : Int)] hv19 [] fun v hv20 =>
     ∃ r : Int, v = .int .u8 r ∧
     ∃ Jv8 : List Value → Heap → Prop,
     ( cnd (r == (101 : Int))
      (cnd (decide ((IntKind.i64.wrap (i4 + (1 : Int))) ≥ ((s.size : Nat) : Int)))
       (R (.bool false) hv20)
       (0 ≤ (IntKind.i64.wrap (i4 + (1 : Int))) ∧ (IntKind.i64.wrap (i4 + (1 : Int))) < ((s.size : Nat) : Int) ∧ ∃ xc10 : UInt8, s[Int.toNat (IntKind.i64.wrap (i4 + (1 : Int)))]? = some xc10 ∧ ∃ Jv9 : List Value → Heap → Prop,
       ( cnd (((UInt8.toNat xc10 : Nat) : Int) == (43 : Int))
         (Jv9 [.int .i64 (IntKind.i64.wrap ((IntKind.i64.wrap (i4 + (1 : Int))) + (1 : Int))), .int .i64 1] hv20)
         (∃ Jv10 : List Value → Heap → Prop,
         ( cnd (((UInt8.toNat xc10 : Nat) : Int) == (45 : Int))
          (Jv10 [.int .i64 (IntKind.i64.wrap ((IntKind.i64.wrap (i4 + (1 : Int))) + (1 : Int))), .int .i64 (-1)] hv20)
          (Jv10 [.int .i64 (IntKind.i64.wrap (i4 + (1 : Int))), .int .i64 1] hv20)) ∧
         ∀ i5 : Int, ∀ esign : Int, ∀ hv21, Jv10 [.int .i64 i5, .int .i64 esign] hv21 →
         Jv9 [.int .i64 i5, .int .i64 esign] hv21)) ∧
       ∀ i6 : Int, ∀ esign2 : Int, ∀ hv22, Jv9 [.int .i64 i6, .int .i64 esign2] hv22 →
       let K3 := fun (hv23 : Heap) =>
        (R (.bool false) hv23)
       cnd (decide (i6 ≥ ((s.size : Nat) : Int)))
        (K3 hv22)
        (0 ≤ i6 ∧ i6 < ((s.size : Nat) : Int) ∧ ∃ xc11 : UInt8, s[Int.toNat i6]? = some xc11 ∧ cnd (decide (((UInt8.toNat xc11 : Nat) : Int) < (48 : Int)))
         (K3 hv22)
         (0 ≤ i6 ∧ i6 < ((s.size : Nat) : Int) ∧ ∃ xc12 : UInt8, s[Int.toNat i6]? = some xc12 ∧ cnd (decide (((UInt8.toNat xc12 : Nat) : Int) > (57 : Int)))
          (R (.bool false) hv22)
          (let K6 := fun (i8 : Int) (ev4 : Int) (hv29 : Heap) =>
           (∃ b17 o17, bP = some ⟨b17, o17, none⟩ ∧ ∃ x9 : Int, hcell hv29 b17 (o17 + 801) = some (.int .i64 x9) ∧ ∃ b18 o18, bP = some ⟨b18, o18, none⟩ ∧ (∃ u, hcell hv29 b18 (o18 + 801) = some u) ∧ hfree hv29 b18 (o18 + 801) = true ∧ let hv30 : Heap := hset hv29 b18 (o18 + 801) (.int .i64 (IntKind.i64.wrap (x9 + (IntKind.i64.wrap (ev4 * esign2)))))
           Jv8 [.int .i64 i8] hv30)
          ∃ (Iv2 : List Value → Heap → Prop) (m2 : List Value → Heap → Nat), Iv2 [.int .i64 i6, .int .i64 0] hv22 ∧
          ∀ i7 : Int, ∀ ev : Int, ∀ hv24, Iv2 [.int .i64 i7, .int .i64 ev] hv24 →
          let K5 := fun (hv26 : Heap) =>
           (∃ Jv11 : List Value → Heap → Prop,
           ( 0 ≤ i7 ∧ i7 < ((s.size : Nat) : Int) ∧ ∃ xc17 : UInt8, s[Int.toNat i7]? = some xc17 ∧ cnd (((UInt8.toNat xc17 : Nat) : Int) == (95 : Int))
             (Jv11 [.int .i64 ev] hv26)
             (∃ Jv12 : List Value → Heap → Prop,
             ( cnd (decide (ev < (10000 : Int)))
              (0 ≤ i7 ∧ i7 < ((s.size : Nat) : Int) ∧ ∃ xc18 : UInt8, s[Int.toNat i7]? = some xc18 ∧ Jv12 [.int .i64 (IntKind.i64.wrap ((IntKind.i64.wrap ((IntKind.i64.wrap (ev * (10 : Int))) + (IntKind.i64.wrap ((UInt8.toNat xc18 : Nat) : Int)))) - (48 : Int)))] hv26)
              (Jv12 [.int .i64 ev] hv26)) ∧
             ∀ ev2 : Int, ∀ hv27, Jv12 [.int .i64 ev2] hv27 →
             Jv11 [.int .i64 ev2] hv27)) ∧
           ∀ ev3 : Int, ∀ hv28, Jv11 [.int .i64 ev3] hv28 →
           Iv2 [.int .i64 (IntKind.i64.wrap (i7 + (1 : Int))), .int .i64 ev3] hv28 ∧ m2 [.int .i64 (IntKind.i64.wrap (i7 + (1 : Int))), .int .i64 ev3] hv28 < m2 [.int .i64 i7, .int .i64 ev] hv24)
          let K4 := fun (x8 : Bool) (hv25 : Heap) =>
           (cnd x8
            (K5 hv25)
            (K6 i7 ev hv25))
          cnd (decide (i7 < ((s.size : Nat) : Int)))
           (0 ≤ i7 ∧ i7 < ((s.size : Nat) : Int) ∧ ∃ xc13 : UInt8, s[Int.toNat i7]? = some xc13 ∧ cnd (decide ((48 : Int) ≤ ((UInt8.toNat xc13 : Nat) : Int)))
            (0 ≤ i7 ∧ i7 < ((s.size : Nat) : Int) ∧ ∃ xc14 : UInt8, s[Int.toNat i7]? = some xc14 ∧ cnd (decide (((UInt8.toNat xc14 : Nat) : Int) ≤ (57 : Int)))
             (K5 hv24)
             (0 ≤ i7 ∧ i7 < ((s.size : Nat) : Int) ∧ ∃ xc15 : UInt8, s[Int.toNat i7]? = some xc15 ∧ K4 (((UInt8.toNat xc15 : Nat) : Int) == (95 : Int)) hv24))
            (0 ≤ i7 ∧ i7 < ((s.size : Nat) : Int) ∧ ∃ xc16 : UInt8, s[Int.toNat i7]? = some xc16 ∧ K4 (((UInt8.toNat xc16 : Nat) : Int) == (95 : Int)) hv24))
           (K6 i7 ev hv24))))))
      (Jv8 [.int .i64 i4] hv20)) ∧
     ∀ i9 : Int, ∀ hv31, Jv8 [.int .i64 i9] hv31 →
     K7 i9 hv31)
     (K7 i4 hv19)))
theorem calls85 {h : Heap} {R : Value → Heap → Prop} (bP : Option Addr) (s : ByteArray) (H : S85 bP s h R) : CallsH Tryz.prog 85 #[.pointer bP, .string s] h R := by
  have e : S85 bP s h R = FX (envD [] 224) { loops := [(1, ⟨[0, 1, 4], [5, 6, 7], [], []⟩), (5, ⟨[0, 1, 4, 8], [5, 9], [], []⟩)], joins := [(23, ⟨[0, 1, 4], [5], [], []⟩), (27, ⟨[0, 1, 4], [5], [], []⟩), (91, ⟨[0, 1, 4, 5, 6, 7], [], [], []⟩), (113, ⟨[0, 1, 4, 5, 6, 7], [], [], []⟩), (120, ⟨[0, 1, 4, 5], [], [], []⟩), (138, ⟨[1, 4], [5], [], []⟩), (148, ⟨[0, 1, 4], [5, 8], [], []⟩), (152, ⟨[0, 1, 4], [5, 8], [], []⟩), (201, ⟨[0, 1, 4, 5, 8], [9], [], []⟩)], blocks := [(1, ⟨[0, 1, 4], [5, 6, 7], [], []⟩), (2, ⟨[0, 1, 4, 5], [6, 7], [], []⟩), (6, ⟨[0, 1, 4, 5, 8], [9], [], []⟩)], draws := [(25, ⟨11, false⟩)] } Tryz.f85 (Tryz.f85.body.getD .skip) [.pointer bP, .string s] h R := by kernel_rfl
  exact calls_of_FX (envD_ok _ _) Tryz.func85 (by kernel_rfl) (by kernel_rfl) (by kernel_rfl) (e ▸ H)
/-- (*internal/strconv.decimal).floatBits -/
def S86 (dP : Option Addr) (fltP : Option Addr) (h : Heap) (R : Value → Heap → Prop) : Prop :=
  ∃ b o, dP = some ⟨b, o, none⟩ ∧ ∃ x : Int, hcell h b (o + 800) = some (.int .i64 x) ∧ cnd (x == (0 : Int))
   (∃ b2 o2, fltP = some ⟨b2, o2, none⟩ ∧ ∃ x2 : Int, hcell h b2 (o2 + 2) = some (.int .i64 x2) ∧ ∃ b3 o3, fltP = some ⟨b3, o3, none⟩ ∧ ∃ x3 : Int, hcell h b3 o3 = some (.int .u64 x3) ∧ 0 ≤ x3 ∧ ∃ b4 o4, fltP = some ⟨b4, o4, none⟩ ∧ ∃ x4 : Int, hcell h b4 (o4 + 2) = some (.int .i64 x4) ∧ ∃ b5 o5, fltP = some ⟨b5, o5, none⟩ ∧ ∃ x5 : Int, hcell h b5 (o5 + 1) = some (.int .u64 x5) ∧ 0 ≤ x5 ∧ ∃ b6 o6, fltP = some ⟨b6, o6, none⟩ ∧ ∃ x6 : Int, hcell h b6 o6 = some (.int .u64 x6) ∧ 0 ≤ x6 ∧ ∃ b7 o7, dP = some ⟨b7, o7, none⟩ ∧ ∃ x7 : Bool, hcell h b7 (o7 + 802) = some (.bool x7) ∧ ∃ Jv : List Value → Heap → Prop,
   ( cnd x7
    (∃ b8 o8, fltP = some ⟨b8, o8, none⟩ ∧ ∃ x8 : Int, hcell h b8 o8 = some (.int .u64 x8) ∧ 0 ≤ x8 ∧ ∃ b9 o9, fltP = some ⟨b9, o9, none⟩ ∧ ∃ x9 : Int, hcell h b9 (o9 + 1) = some (.int .u64 x9) ∧ 0 ≤ x9 ∧ Jv [.int .u64 (bits .or .u64 (bits .or .u64 (bits .and .u64 (0 : Int) (IntKind.u64.wrap ((IntKind.u64.wrap ((1 : Int) * 2 ^ (min (Int.toNat x3) 64))) - (1 : Int)))) (IntKind.u64.wrap ((IntKind.u64.wrap (bits .and .i64 (IntKind.i64.wrap (x2 - x4)) (IntKind.i64.wrap ((IntKind.i64.wrap ((1 : Int) * 2 ^ (min (Int.toNat x5) 64))) - (1 : Int))))) * 2 ^ (min (Int.toNat x6) 64)))) (IntKind.u64.wrap ((IntKind.u64.wrap ((1 : Int) * 2 ^ (min (Int.toNat x8) 64))) * 2 ^ (min (Int.toNat x9) 64))))] h)
    (Jv [.int .u64 (bits .or .u64 (bits .and .u64 (0 : Int) (IntKind.u64.wrap ((IntKind.u64.wrap ((1 : Int) * 2 ^ (min (Int.toNat x3) 64))) - (1 : Int)))) (IntKind.u64.wrap ((IntKind.u64.wrap (bits .and .i64 (IntKind.i64.wrap (x2 - x4)) (IntKind.i64.wrap ((IntKind.i64.wrap ((1 : Int) * 2 ^ (min (Int.toNat x5) 64))) - (1 : Int))))) * 2 ^ (min (Int.toNat x6) 64))))] h)) ∧
   ∀ bits : Int, ∀ hv, Jv [.int .u64 bits] hv →
   R (.tuple #[.int .u64 bits, .bool false]) hv)
   (∃ b10 o10, dP = some ⟨b10, o10, none⟩ ∧ ∃ x10 : Int, hcell h b10 (o10 + 801) = some (.int .i64 x10) ∧ cnd (decide (x10 > (310 : Int)))
    (∃ b11 o11, fltP = some ⟨b11, o11, none⟩ ∧ ∃ x11 : Int, hcell h b11 (o11 + 1) = some (.int .u64 x11) ∧ 0 ≤ x11 ∧ ∃ b12 o12, fltP = some ⟨b12, o12, none⟩ ∧ ∃ x12 : Int, hcell h b12 (o12 + 2) = some (.int .i64 x12) ∧ ∃ b13 o13, fltP = some ⟨b13, o13, none⟩ ∧ ∃ x13 : Int, hcell h b13 o13 = some (.int .u64 x13) ∧ 0 ≤ x13 ∧ ∃ b14 o14, fltP = some ⟨b14, o14, none⟩ ∧ ∃ x14 : Int, hcell h b14 (o14 + 2) = some (.int .i64 x14) ∧ ∃ b15 o15, fltP = some ⟨b15, o15, none⟩ ∧ ∃ x15 : Int, hcell h b15 (o15 + 1) = some (.int .u64 x15) ∧ 0 ≤ x15 ∧ ∃ b16 o16, fltP = some ⟨b16, o16, none⟩ ∧ ∃ x16 : Int, hcell h b16 o16 = some (.int .u64 x16) ∧ 0 ≤ x16 ∧ ∃ b17 o17, dP = some ⟨b17, o17, none⟩ ∧ ∃ x17 : Bool, hcell h b17 (o17 + 802) = some (.bool x17) ∧ ∃ Jv2 : List Value → Heap → Prop,
    ( cnd x17
     (∃ b18 o18, fltP = some ⟨b18, o18, none⟩ ∧ ∃ x18 : Int, hcell h b18 o18 = some (.int .u64 x18) ∧ 0 ≤ x18 ∧ ∃ b19 o19, fltP = some ⟨b19, o19, none⟩ ∧ ∃ x19 : Int, hcell h b19 (o19 + 1) = some (.int .u64 x19) ∧ 0 ≤ x19 ∧ Jv2 [.int .u64 (bits .or .u64 (bits .or .u64 (bits .and .u64 (0 : Int) (IntKind.u64.wrap ((IntKind.u64.wrap ((1 : Int) * 2 ^ (min (Int.toNat x13) 64))) - (1 : Int)))) (IntKind.u64.wrap ((IntKind.u64.wrap (bits .and .i64 (IntKind.i64.wrap ((IntKind.i64.wrap ((IntKind.i64.wrap ((IntKind.i64.wrap ((1 : Int) * 2 ^ (min (Int.toNat x11) 64))) - (1 : Int))) + x12)) - x14)) (IntKind.i64.wrap ((IntKind.i64.wrap ((1 : Int) * 2 ^ (min (Int.toNat x15) 64))) - (1 : Int))))) * 2 ^ (min (Int.toNat x16) 64)))) (IntKind.u64.wrap ((IntKind.u64.wrap ((1 : Int) * 2 ^ (min (Int.toNat x18) 64))) * 2 ^ (min (Int.toNat x19) 64))))] h)
     (Jv2 [.int .u64 (bits .or .u64 (bits .and .u64 (0 : Int) (IntKind.u64.wrap ((IntKind.u64.wrap ((1 : Int) * 2 ^ (min (Int.toNat x13) 64))) - (1 : Int)))) (IntKind.u64.wrap ((IntKind.u64.wrap (bits .and .i64 (IntKind.i64.wrap ((IntKind.i64.wrap ((IntKind.i64.wrap ((IntKind.i64.wrap ((1 : Int) * 2 ^ (min (Int.toNat x11) 64))) - (1 : Int))) + x12)) - x14)) (IntKind.i64.wrap ((IntKind.i64.wrap ((1 : Int) * 2 ^ (min (Int.toNat x15) 64))) - (1 : Int))))) * 2 ^ (min (Int.toNat x16) 64))))] h)) ∧
    ∀ bits2 : Int, ∀ hv2, Jv2 [.int .u64 bits2] hv2 →
    R (.tuple #[.int .u64 bits2, .bool true]) hv2)
    (∃ b20 o20, dP = some ⟨b20, o20, none⟩ ∧ ∃ x20 : Int, hcell h b20 (o20 + 801) = some (.int .i64 x20) ∧ cnd (decide (x20 < ((-330) : Int)))
     (∃ b21 o21, fltP = some ⟨b21, o21, none⟩ ∧ ∃ x21 : Int, hcell h b21 (o21 + 2) = some (.int .i64 x21) ∧ ∃ b22 o22, fltP = some ⟨b22, o22, none⟩ ∧ ∃ x22 : Int, hcell h b22 o22 = some (.int .u64 x22) ∧ 0 ≤ x22 ∧ ∃ b23 o23, fltP = some ⟨b23, o23, none⟩ ∧ ∃ x23 : Int, hcell h b23 (o23 + 2) = some (.int .i64 x23) ∧ ∃ b24 o24, fltP = some ⟨b24, o24, none⟩ ∧ ∃ x24 : Int, hcell h b24 (o24 + 1) = some (.int .u64 x24) ∧ 0 ≤ x24 ∧ ∃ b25 o25, fltP = some ⟨b25, o25, none⟩ ∧ ∃ x25 : Int, hcell h b25 o25 = some (.int .u64 x25) ∧ 0 ≤ x25 ∧ ∃ b26 o26, dP = some ⟨b26, o26, none⟩ ∧ ∃ x26 : Bool, hcell h b26 (o26 + 802) = some (.bool x26) ∧ ∃ Jv3 : List Value → Heap → Prop,
     ( cnd x26
      (∃ b27 o27, fltP = some ⟨b27, o27, none⟩ ∧ ∃ x27 : Int, hcell h b27 o27 = some (.int .u64 x27) ∧ 0 ≤ x27 ∧ ∃ b28 o28, fltP = some ⟨b28, o28, none⟩ ∧ ∃ x28 : Int, hcell h b28 (o28 + 1) = some (.int .u64 x28) ∧ 0 ≤ x28 ∧ Jv3 [.int .u64 (bits .or .u64 (bits .or .u64 (bits .and .u64 (0 : Int) (IntKind.u64.wrap ((IntKind.u64.wrap ((1 : Int) * 2 ^ (min (Int.toNat x22) 64))) - (1 : Int)))) (IntKind.u64.wrap ((IntKind.u64.wrap (bits .and .i64 (IntKind.i64.wrap (x21 - x23)) (IntKind.i64.wrap ((IntKind.i64.wrap ((1 : Int) * 2 ^ (min (Int.toNat x24) 64))) - (1 : Int))))) * 2 ^ (min (Int.toNat x25) 64)))) (IntKind.u64.wrap ((IntKind.u64.wrap ((1 : Int) * 2 ^ (min (Int.toNat x27) 64))) * 2 ^ (min (Int.toNat x28) 64))))] h)
      (Jv3 [.int .u64 (bits .or .u64 (bits .and .u64 (0 : Int) (IntKind.u64.wrap ((IntKind.u64.wrap ((1 : Int) * 2 ^ (min (Int.toNat x22) 64))) - (1 : Int)))) (IntKind.u64.wrap ((IntKind.u64.wrap (bits .and .i64 (IntKind.i64.wrap (x21 - x23)) (IntKind.i64.wrap ((IntKind.i64.wrap ((1 : Int) * 2 ^ (min (Int.toNat x24) 64))) - (1 : Int))))) * 2 ^ (min (Int.toNat x25) 64))))] h)) ∧
     ∀ bits3 : Int, ∀ hv3, Jv3 [.int .u64 bits3] hv3 →
     R (.tuple #[.int .u64 bits3, .bool false]) hv3)
     (∃ (Iv : List Value → Heap → Prop) (m : List Value → Heap → Nat), Iv [.int .i64 0] h ∧
     ∀ exp : Int, ∀ hv4, Iv [.int .i64 exp] hv4 →
     ∃ b29 o29, dP = some ⟨b29, o29, none⟩ ∧ ∃ x29 : Int, hcell hv4 b29 (o29 + 801) = some (.int .i64 x29) ∧ cnd (decide (x29 > (0 : Int)))
      (∃ b30 o30, dP = some ⟨b30, o30, none⟩ ∧ ∃ x30 : Int, hcell hv4 b30 (o30 + 801) = some (.int .i64 x30) ∧ ∃ (xA : Option Addr) (xL xC : Nat), hcell hv4 9 0 = some (.slice xA xL xC) ∧ ∃ Jv4 : List Value → Heap → Prop,
      ( cnd (decide (x30 ≥ ((xL : Nat) : Int)))
       (Jv4 [.int .i64 27] hv4)
       (∃ (xA2 : Option Addr) (xL2 xC2 : Nat), hcell hv4 9 0 = some (.slice xA2 xL2 xC2) ∧ ∃ b31 o31, dP = some ⟨b31, o31, none⟩ ∧ ∃ x31 : Int, hcell hv4 b31 (o31 + 801) = some (.int .i64 x31) ∧ ∃ b32 o32, xA2 = some ⟨b32, o32, none⟩ ∧ 0 ≤ x31 ∧ x31 < (xL2 : Nat) ∧ ∃ x32 : Int, hcell hv4 b32 (o32 + (Int.toNat x31) * 1) = some (.int .i64 x32) ∧ Jv4 [.int .i64 x32] hv4)) ∧
      ∀ n : Int, ∀ hv5, Jv4 [.int .i64 n] hv5 →
      callX Tryz.prog 71 #[.pointer dP, .int .i64 (IntKind.i64.wrap (0 - n))] hv5 [] fun v hv6 =>
      v = .tuple #[] ∧
      Iv [.int .i64 (IntKind.i64.wrap (exp + n))] hv6 ∧ m [.int .i64 (IntKind.i64.wrap (exp + n))] hv6 < m [.int .i64 exp] hv4)
      (∃ Jv5 : List Value → Heap → Prop,
      ( ∃ (Iv2 : List Value → Heap → Prop) (m2 : List Value → Heap → Nat), Iv2 [.int .i64 exp] hv4 ∧
      ∀ exp2 : Int, ∀ hv7, Iv2 [.int .i64 exp2] hv7 →
      let K := fun (hv8 : Heap) =>
       (∃ b36 o36, dP = some ⟨b36, o36, none⟩ ∧ ∃ x36 : Int, hcell hv8 b36 (o36 + 801) = some (.int .i64 x36) ∧ ∃ (xA3 : Option Addr) (xL3 xC3 : Nat), hcell hv8 9 0 = some (.slice xA3 xL3 xC3) ∧ ∃ Jv6 : List Value → Heap → Prop,
       ( cnd (decide ((IntKind.i64.wrap (0 - x36)) ≥ ((xL3 : Nat) : Int)))
         (Jv6 [.int .i64 27] hv8)
         (∃ (xA4 : Option Addr) (xL4 xC4 : Nat), hcell hv8 9 0 = some (.slice xA4 xL4 xC4) ∧ ∃ b37 o37, dP = some ⟨b37, o37, none⟩ ∧ ∃ x37 : Int, hcell hv8 b37 (o37 + 801) = some (.int .i64 x37) ∧ ∃ b38 o38, xA4 = some ⟨b38, o38, none⟩ ∧ 0 ≤ (IntKind.i64.wrap (0 - x37)) ∧ (IntKind.i64.wrap (0 - x37)) < (xL4 : Nat) ∧ ∃ x38 : Int, hcell hv8 b38 (o38 + (Int.toNat (IntKind.i64.wrap (0 - x37))) * 1) = some (.int .i64 x38) ∧ Jv6 [.int .i64 x38] hv8)) ∧
       ∀ n2 : Int, ∀ hv9, Jv6 [.int .i64 n2] hv9 →
       callX Tryz.prog 71 #[.pointer dP, .int .i64 n2] hv9 [] fun v2 hv10 =>
       v2 = .tuple #[] ∧
       Iv2 [.int .i64 (IntKind.i64.wrap (exp2 - n2))] hv10 ∧ m2 [.int .i64 (IntKind.i64.wrap (exp2 - n2))] hv10 < m2 [.int .i64 exp2] hv7)
      ∃ b33 o33, dP = some ⟨b33, o33, none⟩ ∧ ∃ x33 : Int, hcell hv7 b33 (o33 + 801) = some (.int .i64 x33) ∧ cnd (decide (x33 < (0 : Int)))
       (K hv7)
       (∃ b34 o34, dP = some ⟨b34, o34, none⟩ ∧ ∃ x34 : Int, hcell hv7 b34 (o34 + 801) = some (.int .i64 x34) ∧ cnd (x34 == (0 : Int))
        (∃ b35 o35, dP = some ⟨b35, o35, none⟩ ∧ ∃ x35 : Int, hcell hv7 b35 (o35 + 0) = some (.int .u8 x35) ∧ cnd (decide (x35 < (53 : Int)))
         (K hv7)
         (Jv5 [.int .i64 exp2] hv7))
        (Jv5 [.int .i64 exp2] hv7))) ∧
      ∀ exp3 : Int, ∀ hv11, Jv5 [.int .i64 exp3] hv11 →
      ∃ b39 o39, fltP = some ⟨b39, o39, none⟩ ∧ ∃ x39 : Int, hcell hv11 b39 (o39 + 2) = some (.int .i64 x39) ∧ ∃ Jv7 : List Value → Heap → Prop,
      ( cnd (decide ((IntKind.i64.wrap (exp3 - (1 : Int))) < (IntKind.i64.wrap (x39 + (1 : Int)))))
       (∃ b40 o40, fltP = some ⟨b40, o40, none⟩ ∧ ∃ x40 : Int, hcell hv11 b40 (o40 + 2) = some (.int .i64 x40) ∧ callX Tryz.prog 71 #[.pointer dP, .int .i64 (IntKind.i64.wrap (0 - (IntKind.i64.wrap ((IntKind.i64.wrap (x40 + (1 : Int))) - (IntKind.i64.wrap (exp3 - (1 : Int)))))))] hv11 [] fun v3 hv12 =>
       v3 = .tuple #[] ∧
       Jv7 [.int .i64 (IntKind.i64.wrap ((IntKind.i64.wrap (exp3 - (1 : Int))) + (IntKind.i64.wrap ((IntKind.i64.wrap (x40 + (1 : Int))) - (IntKind.i64.wrap (exp3 - (1 : Int)))))))] hv12)
       (Jv7 [.int .i64 (IntKind.i64.wrap (exp3 - (1 : Int)))] hv11)) ∧
      ∀ exp4 : Int, ∀ hv13, Jv7 [.int .i64 exp4] hv13 →
      ∃ b41 o41, fltP = some ⟨b41, o41, none⟩ ∧ ∃ x41 : Int, hcell hv13 b41 (o41 + 2) = some (.int .i64 x41) ∧ ∃ b42 o42, fltP = some ⟨b42, o42, none⟩ ∧ ∃ x42 : Int, hcell hv13 b42 (o42 + 1) = some (.int .u64 x42) ∧ 0 ≤ x42 ∧ cnd (decide ((IntKind.i64.wrap (exp4 - x41)) ≥ (IntKind.i64.wrap ((IntKind.i64.wrap ((1 : Int) * 2 ^ (min (Int.toNat x42) 64))) - (1 : Int)))))
       (∃ b43 o43, fltP = some ⟨b43, o43, none⟩ ∧ ∃ x43 : Int, hcell hv13 b43 (o43 + 1) = some (.int .u64 x43) ∧ 0 ≤ x43 ∧ ∃ b44 o44, fltP = some ⟨b44, o44, none⟩ ∧ ∃ x44 : Int, hcell hv13 b44 (o44 + 2) = some (.int .i64 x44) ∧ ∃ b45 o45, fltP = some ⟨b45, o45, none⟩ ∧ ∃ x45 : Int, hcell hv13 b45 o45 = some (.int .u64 x45) ∧ 0 ≤ x45 ∧ ∃ b46 o46, fltP = some ⟨b46, o46, none⟩ ∧ ∃ x46 : Int, hcell hv13 b46 (o46 + 2) = some (.int .i64 x46) ∧ ∃ b47 o47, fltP = some ⟨b47, o47, none⟩ ∧ ∃ x47 : Int, hcell hv13 b47 (o47 + 1) = some (.int .u64 x47) ∧ 0 ≤ x47 ∧ ∃ b48 o48, fltP = some ⟨b48, o48, none⟩ ∧ ∃ x48 : Int, hcell hv13 b48 o48 = some (.int .u64 x48) ∧ 0 ≤ x48 ∧ ∃ b49 o49, dP = some ⟨b49, o49, none⟩ ∧ ∃ x49 : Bool, hcell hv13 b49 (o49 + 802) = some (.bool x49) ∧ ∃ Jv8 : List Value → Heap → Prop,
       ( cnd x49
        (∃ b50 o50, fltP = some ⟨b50, o50, none⟩ ∧ ∃ x50 : Int, hcell hv13 b50 o50 = some (.int .u64 x50) ∧ 0 ≤ x50 ∧ ∃ b51 o51, fltP = some ⟨b51, o51, none⟩ ∧ ∃ x51 : Int, hcell hv13 b51 (o51 + 1) = some (.int .u64 x51) ∧ 0 ≤ x51 ∧ Jv8 [.int .u64 (bits .or .u64 (bits .or .u64 (bits .and .u64 (0 : Int) (IntKind.u64.wrap ((IntKind.u64.wrap ((1 : Int) * 2 ^ (min (Int.toNat x45) 64))) - (1 : Int)))) (IntKind.u64.wrap ((IntKind.u64.wrap (bits .and .i64 (IntKind.i64.wrap ((IntKind.i64.wrap ((IntKind.i64.wrap ((IntKind.i64.wrap ((1 : Int) * 2 ^ (min (Int.toNat x43) 64))) - (1 : Int))) + x44)) - x46)) (IntKind.i64.wrap ((IntKind.i64.wrap ((1 : Int) * 2 ^ (min (Int.toNat x47) 64))) - (1 : Int))))) * 2 ^ (min (Int.toNat x48) 64)))) (IntKind.u64.wrap ((IntKind.u64.wrap ((1 : Int) * 2 ^ (min (Int.toNat x50) 64))) * 2 ^ (min (Int.toNat x51) 64))))] hv13)
        (Jv8 [.int .u64 (bits .or .u64 (bits .and .u64 (0 : Int) (IntKind.u64.wrap ((IntKind.u64.wrap ((1 : Int) * 2 ^ (min (Int.toNat x45) 64))) - (1 : Int)))) (IntKind.u64.wrap ((IntKind.u64.wrap (bits .and .i64 (IntKind.i64.wrap ((IntKind.i64.wrap ((IntKind.i64.wrap ((IntKind.i64.wrap ((1 : Int) * 2 ^ (min (Int.toNat x43) 64))) - (1 : Int))) + x44)) - x46)) (IntKind.i64.wrap ((IntKind.i64.wrap ((1 : Int) * 2 ^ (min (Int.toNat x47) 64))) - (1 : Int))))) * 2 ^ (min (Int.toNat x48) 64))))] hv13)) ∧
       ∀ bits4 : Int, ∀ hv14, Jv8 [.int .u64 bits4] hv14 →
       R (.tuple #[.int .u64 bits4, .bool true]) hv14)
       (∃ b52 o52, fltP = some ⟨b52, o52, none⟩ ∧ ∃ x52 : Int, hcell hv13 b52 o52 = some (.int .u64 x52) ∧ callX Tryz.prog 71 #[.pointer dP, .int .i64 (IntKind.i64.wrap (IntKind.u64.wrap ((1 : Int) + x52)))] hv13 [] fun v4 hv15 =>
       v4 = .tuple #[] ∧
       callX Tryz.prog 119 #[.pointer dP] hv15 [] fun v5 hv16 =>
       ∃ r : Int, v5 = .int .u64 r ∧
       let K2 := fun (exp5 : Int) (mant : Int) (hv18 : Heap) =>
        (∃ b65 o65, fltP = some ⟨b65, o65, none⟩ ∧ ∃ x65 : Int, hcell hv18 b65 o65 = some (.int .u64 x65) ∧ 0 ≤ x65 ∧ ∃ Jv10 : List Value → Heap → Prop,
        ( cnd ((bits .and .u64 mant (IntKind.u64.wrap ((1 : Int) * 2 ^ (min (Int.toNat x65) 64)))) == (0 : Int))
         (∃ b66 o66, fltP = some ⟨b66, o66, none⟩ ∧ ∃ x66 : Int, hcell hv18 b66 (o66 + 2) = some (.int .i64 x66) ∧ Jv10 [.int .i64 x66] hv18)
         (Jv10 [.int .i64 exp5] hv18)) ∧
        ∀ exp6 : Int, ∀ hv19, Jv10 [.int .i64 exp6] hv19 →
        ∃ b67 o67, fltP = some ⟨b67, o67, none⟩ ∧ ∃ x67 : Int, hcell hv19 b67 o67 = some (.int .u64 x67) ∧ 0 ≤ x67 ∧ ∃ b68 o68, fltP = some ⟨b68, o68, none⟩ ∧ ∃ x68 : Int, hcell hv19 b68 (o68 + 2) = some (.int .i64 x68) ∧ ∃ b69 o69, fltP = some ⟨b69, o69, none⟩ ∧ ∃ x69 : Int, hcell hv19 b69 (o69 + 1) = some (.int .u64 x69) ∧ 0 ≤ x69 ∧ ∃ b70 o70, fltP = some ⟨b70, o70, none⟩ ∧ ∃ x70 : Int, hcell hv19 b70 o70 = some (.int .u64 x70) ∧ 0 ≤ x70 ∧ ∃ b71 o71, dP = some ⟨b71, o71, none⟩ ∧ ∃ x71 : Bool, hcell hv19 b71 (o71 + 802) = some (.bool x71) ∧ ∃ Jv11 : List Value → Heap → Prop,
        ( cnd x71
         (∃ b72 o72, fltP = some ⟨b72, o72, none⟩ ∧ ∃ x72 : Int, hcell hv19 b72 o72 = some (.int .u64 x72) ∧ 0 ≤ x72 ∧ ∃ b73 o73, fltP = some ⟨b73, o73, none⟩ ∧ ∃ x73 : Int, hcell hv19 b73 (o73 + 1) = some (.int .u64 x73) ∧ 0 ≤ x73 ∧ Jv11 [.int .u64 (bits .or .u64 (bits .or .u64 (bits .and .u64 mant (IntKind.u64.wrap ((IntKind.u64.wrap ((1 : Int) * 2 ^ (min (Int.toNat x67) 64))) - (1 : Int)))) (IntKind.u64.wrap ((IntKind.u64.wrap (bits .and .i64 (IntKind.i64.wrap (exp6 - x68)) (IntKind.i64.wrap ((IntKind.i64.wrap ((1 : Int) * 2 ^ (min (Int.toNat x69) 64))) - (1 : Int))))) * 2 ^ (min (Int.toNat x70) 64)))) (IntKind.u64.wrap ((IntKind.u64.wrap ((1 : Int) * 2 ^ (min (Int.toNat x72) 64))) * 2 ^ (min (Int.toNat x73) 64))))] hv19)
         (Jv11 [.int .u64 (bits .or .u64 (bits .and .u64 mant (IntKind.u64.wrap ((IntKind.u64.wrap ((1 : Int) * 2 ^ (min (Int.toNat x67) 64))) - (1 : Int)))) (IntKind.u64.wrap ((IntKind.u64.wrap (bits .and .i64 (IntKind.i64.wrap (exp6 - x68)) (IntKind.i64.wrap ((IntKind.i64.wrap ((1 : Int) * 2 ^ (min (Int.toNat x69) 64))) - (1 : Int))))) * 2 ^ (min (Int.toNat x70) 64))))] hv19)) ∧
        ∀ bits6 : Int, ∀ hv20, Jv11 [.int .u64 bits6] hv20 →
        R (.tuple #[.int .u64 bits6, .bool false]) hv20)
       ∃ b53 o53, fltP = some ⟨b53, o53, none⟩ ∧ ∃ x53 : Int, hcell hv16 b53 o53 = some (.int .u64 x53) ∧ 0 ≤ x53 ∧ cnd (r == (IntKind.u64.wrap ((2 : Int) * 2 ^ (min (Int.toNat x53) 64))))
        (0 ≤ (1 : Int) ∧ ∃ b54 o54, fltP = some ⟨b54, o54, none⟩ ∧ ∃ x54 : Int, hcell hv16 b54 (o54 + 2) = some (.int .i64 x54) ∧ ∃ b55 o55, fltP = some ⟨b55, o55, none⟩ ∧ ∃ x55 : Int, hcell hv16 b55 (o55 + 1) = some (.int .u64 x55) ∧ 0 ≤ x55 ∧ cnd (decide ((IntKind.i64.wrap ((IntKind.i64.wrap (exp4 + (1 : Int))) - x54)) ≥ (IntKind.i64.wrap ((IntKind.i64.wrap ((1 : Int) * 2 ^ (min (Int.toNat x55) 64))) - (1 : Int)))))
         (∃ b56 o56, fltP = some ⟨b56, o56, none⟩ ∧ ∃ x56 : Int, hcell hv16 b56 (o56 + 1) = some (.int .u64 x56) ∧ 0 ≤ x56 ∧ ∃ b57 o57, fltP = some ⟨b57, o57, none⟩ ∧ ∃ x57 : Int, hcell hv16 b57 (o57 + 2) = some (.int .i64 x57) ∧ ∃ b58 o58, fltP = some ⟨b58, o58, none⟩ ∧ ∃ x58 : Int, hcell hv16 b58 o58 = some (.int .u64 x58) ∧ 0 ≤ x58 ∧ ∃ b59 o59, fltP = some ⟨b59, o59, none⟩ ∧ ∃ x59 : Int, hcell hv16 b59 (o59 + 2) = some (.int .i64 x59) ∧ ∃ b60 o60, fltP = some ⟨b60, o60, none⟩ ∧ ∃ x60 : Int, hcell hv16 b60 (o60 + 1) = some (.int .u64 x60) ∧ 0 ≤ x60 ∧ ∃ b61 o61, fltP = some ⟨b61, o61, none⟩ ∧ ∃ x61 : Int, hcell hv16 b61 o61 = some (.int .u64 x61) ∧ 0 ≤ x61 ∧ ∃ b62 o62, dP = some ⟨b62, o62, none⟩ ∧ ∃ x62 : Bool, hcell hv16 b62 (o62 + 802) = some (.bool x62) ∧ ∃ Jv9 : List Value → Heap → Prop,
         ( cnd x62
          (∃ b63 o63, fltP = some ⟨b63, o63, none⟩ ∧ ∃ x63 : Int, hcell hv16 b63 o63 = some (.int .u64 x63) ∧ 0 ≤ x63 ∧ ∃ b64 o64, fltP = some ⟨b64, o64, none⟩ ∧ ∃ x64 : Int, hcell hv16 b64 (o64 + 1) = some (.int .u64 x64) ∧ 0 ≤ x64 ∧ Jv9 [.int .u64 (bits .or .u64 (bits .or .u64 (bits .and .u64 (0 : Int) (IntKind.u64.wrap ((IntKind.u64.wrap ((1 : Int) * 2 ^ (min (Int.toNat x58) 64))) - (1 : Int)))) (IntKind.u64.wrap ((IntKind.u64.wrap (bits .and .i64 (IntKind.i64.wrap ((IntKind.i64.wrap ((IntKind.i64.wrap ((IntKind.i64.wrap ((1 : Int) * 2 ^ (min (Int.toNat x56) 64))) - (1 : Int))) + x57)) - x59)) (IntKind.i64.wrap ((IntKind.i64.wrap ((1 : Int) * 2 ^ (min (Int.toNat x60) 64))) - (1 : Int))))) * 2 ^ (min (Int.toNat x61) 64)))) (IntKind.u64.wrap ((IntKind.u64.wrap ((1 : Int) * 2 ^ (min (Int.toNat x63) 64))) * 2 ^ (min (Int.toNat x64) 64))))] hv16)
          (Jv9 [.int .u64 (bits .or .u64 (bits .and .u64 (0 : Int) (IntKind.u64.wrap ((IntKind.u64.wrap ((1 : Int) * 2 ^ (min (Int.toNat x58) 64))) - (1 : Int)))) (IntKind.u64.wrap ((IntKind.u64.wrap (bits .and .i64 (IntKind.i64.wrap ((IntKind.i64.wrap ((IntKind.i64.wrap ((IntKind.i64.wrap ((1 : Int) * 2 ^ (min (Int.toNat x56) 64))) - (1 : Int))) + x57)) - x59)) (IntKind.i64.wrap ((IntKind.i64.wrap ((1 : Int) * 2 ^ (min (Int.toNat x60) 64))) - (1 : Int))))) * 2 ^ (min (Int.toNat x61) 64))))] hv16)) ∧
         ∀ bits5 : Int, ∀ hv17, Jv9 [.int .u64 bits5] hv17 →
         R (.tuple #[.int .u64 bits5, .bool true]) hv17)
         (K2 (IntKind.i64.wrap (exp4 + (1 : Int))) (Int.fdiv r (2 ^ (min (Int.toNat (1 : Int)) 64))) hv16))
        (K2 exp4 r hv16))))))
theorem calls86 {h : Heap} {R : Value → Heap → Prop} (dP : Option Addr) (fltP : Option Addr) (H : S86 dP fltP h R) : CallsH Tryz.prog 86 #[.pointer dP, .pointer fltP] h R := by
  have e : S86 dP fltP h R = FXg (envD [] 243) { loops := [(0, ⟨[0, 1, 5], [6], [], []⟩), (2, ⟨[0, 1, 5], [6], [], []⟩)], joins := [(228, ⟨[5], [11], [], []⟩), (46, ⟨[0, 1, 5, 6], [8], [], []⟩), (88, ⟨[0, 1, 5, 6], [9], [], []⟩), (111, ⟨[0, 1, 5], [6], [], []⟩), (180, ⟨[0, 1, 5, 7], [6], [], []⟩)], blocks := [(2, ⟨[0, 1, 5], [6], [], []⟩)], draws := [(43, ⟨22, false⟩), (45, ⟨13, false⟩), (40, ⟨12, false⟩), (13, ⟨7, false⟩), (15, ⟨8, false⟩), (20, ⟨8, false⟩), (22, ⟨9, false⟩), (30, ⟨13, false⟩), (36, ⟨13, false⟩)] } Tryz.f86 (Tryz.f86.body.getD .skip) [.pointer dP, .pointer fltP] h R := by kernel_rfl
  exact calls_of_FXg (envD_ok _ _) Tryz.func86 (by kernel_rfl) (by kernel_rfl) (by kernel_rfl) (e ▸ H)
end Go.Proofs.YtfjflbapojgbhaaGreatDoor
