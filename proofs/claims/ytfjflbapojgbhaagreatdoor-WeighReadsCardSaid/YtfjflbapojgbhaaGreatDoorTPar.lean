/- Functions: what is left to be shown of each, over memory and without: printed by program, tied to the loaded functions by the kernel. Conditions: none. -/
import Derived.Test.YtfjflbapojgbhaaGreatDoorWEnv
import Derived.Test.YtfjflbapojgbhaaGreatDoorYTwo
import Derived.Test.YtfjflbapojgbhaaGreatDoorYGl
import Derived.Test.YtfjflbapojgbhaaGreatDoorTFmt
namespace Go.Proofs.YtfjflbapojgbhaaGreatDoor.N
open Go.Proofs.YtfjflbapojgbhaaGreatDoor
open Go.X
set_option maxRecDepth 100000
set_option linter.unusedVariables false
set_option linter.unusedSimpArgs false
set_option maxHeartbeats 2000000

/-- internal/strconv.inf -/
def Ok115 (sign : Int) (R : Nat → Prop) : Prop :=
  ∀ (h : Heap), Hp h [] → CallsH Tryz.prog 115 #[.int .i64 sign] h fun v h' => ∃ (rV : Nat), Sy h [] h' [] ∧ v = .float .f64 rV ∧ R rV
theorem Ok115.mono {sign} {R R' : Nat → Prop} (H : Ok115 sign R) (kz : ∀ rV, R rV → R' rV) : Ok115 sign R' :=
  fun h  hp => (H h  hp).mono fun _ _ ⟨rV, P, e, q⟩ => ⟨rV, P, e, kz _ q⟩
/-- internal/strconv.nan -/
def Ok116  (R : Nat → Prop) : Prop :=
  ∀ (h : Heap), Hp h [] → CallsH Tryz.prog 116 #[] h fun v h' => ∃ (rV : Nat), Sy h [] h' [] ∧ v = .float .f64 rV ∧ R rV
theorem Ok116.mono {R R' : Nat → Prop} (H : Ok116  R) (kz : ∀ rV, R rV → R' rV) : Ok116  R' :=
  fun h  hp => (H h  hp).mono fun _ _ ⟨rV, P, e, q⟩ => ⟨rV, P, e, kz _ q⟩
/-- internal/strconv.commonPrefixLenIgnoreCase -/
def S114 (s : ByteArray) (prefixv : ByteArray) (h : Heap) (R : Value → Heap → Prop) : Prop :=
  ∃ (Iv : List Value → Heap → Prop) (m : List Value → Heap → Nat), Iv [.int .i64 0] h ∧
  ∀ i : Int, ∀ hv, Iv [.int .i64 i] hv →
  cnd (decide (i < (if ((s.size : Nat) : Int) < ((prefixv.size : Nat) : Int) then ((s.size : Nat) : Int) else ((prefixv.size : Nat) : Int))))
   (0 ≤ i ∧ i < ((s.size : Nat) : Int) ∧ ∃ xc : UInt8, s[Int.toNat i]? = some xc ∧ let K := fun (c2 : Int) (hv3 : Heap) =>
    (0 ≤ i ∧ i < ((prefixv.size : Nat) : Int) ∧ ∃ xc2 : UInt8, prefixv[Int.toNat i]? = some xc2 ∧ cnd (c2 != ((UInt8.toNat xc2 : Nat) : Int))
     (R (.int .i64 i) hv3)
     (Iv [.int .i64 (IntKind.i64.wrap (i + (1 : Int)))] hv3 ∧ m [.int .i64 (IntKind.i64.wrap (i + (1 : Int)))] hv3 < m [.int .i64 i] hv))
   cnd (decide ((65 : Int) ≤ ((UInt8.toNat xc : Nat) : Int)))
    (∃ Jv : List Value → Heap → Prop,
    ( cnd (decide (((UInt8.toNat xc : Nat) : Int) ≤ (90 : Int)))
     (Jv [.int .u8 (IntKind.u8.wrap (((UInt8.toNat xc : Nat) : Int) + (32 : Int)))] hv)
     (Jv [.int .u8 ((UInt8.toNat xc : Nat) : Int)] hv)) ∧
    ∀ c : Int, ∀ hv2, Jv [.int .u8 c] hv2 →
    K c hv2)
    (K ((UInt8.toNat xc : Nat) : Int) hv))
   (R (.int .i64 (if ((s.size : Nat) : Int) < ((prefixv.size : Nat) : Int) then ((s.size : Nat) : Int) else ((prefixv.size : Nat) : Int))) hv)
theorem calls114 {h : Heap} {R : Value → Heap → Prop} (s : ByteArray) (prefixv : ByteArray) (H : S114 s prefixv h R) : CallsH Tryz.prog 114 #[.string s, .string prefixv] h R := by
  have e : S114 s prefixv h R = FX (envX [] 36) { loops := [(0, ⟨[0, 1, 5], [6], [], []⟩)], joins := [(26, ⟨[0, 1, 5, 6], [7], [], []⟩)], blocks := [], draws := [] } Tryz.f114 (Tryz.f114.body.getD .skip) [.string s, .string prefixv] h R := by kernel_rfl
  exact calls_of_FX (envX_ok _ _) Tryz.func114 (by kernel_rfl) (by kernel_rfl) (by kernel_rfl) (e ▸ H)
/-- internal/strconv.commonPrefixLenIgnoreCase -/
def Ok114 (s : ByteArray) (prefixv : ByteArray) (R : Int → Prop) : Prop :=
  ∀ (h : Heap), Hp h [] → CallsH Tryz.prog 114 #[.string s, .string prefixv] h fun v h' => ∃ (rV : Int), Sy h [] h' [] ∧ v = .int .i64 rV ∧ R rV
theorem Ok114.mono {s prefixv} {R R' : Int → Prop} (H : Ok114 s prefixv R) (kz : ∀ rV, R rV → R' rV) : Ok114 s prefixv R' :=
  fun h  hp => (H h  hp).mono fun _ _ ⟨rV, P, e, q⟩ => ⟨rV, P, e, kz _ q⟩
def T114 (s : ByteArray) (prefixv : ByteArray) (R : Int → Prop) : Prop :=
  ∃ (Iv : Int → Prop) (m : Int → Nat), Iv 0 ∧
  ∀ i : Int, Iv i →
  cnd (decide (i < (if ((s.size : Nat) : Int) < ((prefixv.size : Nat) : Int) then ((s.size : Nat) : Int) else ((prefixv.size : Nat) : Int))))
   (0 ≤ i ∧ i < ((s.size : Nat) : Int) ∧ ∃ xc : UInt8, s[Int.toNat i]? = some xc ∧ ∃ Jv_2 : Int → Prop,
   ( cnd (decide ((65 : Int) ≤ ((UInt8.toNat xc : Nat) : Int)))
    (∃ Jv : Int → Prop,
    ( cnd (decide (((UInt8.toNat xc : Nat) : Int) ≤ (90 : Int)))
      (Jv (IntKind.u8.wrap (((UInt8.toNat xc : Nat) : Int) + (32 : Int))))
      (Jv ((UInt8.toNat xc : Nat) : Int))) ∧
    ∀ c : Int, Jv c →
    Jv_2 c)
    (Jv_2 ((UInt8.toNat xc : Nat) : Int))) ∧
   ∀ c2 : Int, Jv_2 c2 →
   0 ≤ i ∧ i < ((prefixv.size : Nat) : Int) ∧ ∃ xc2 : UInt8, prefixv[Int.toNat i]? = some xc2 ∧ cnd (c2 != ((UInt8.toNat xc2 : Nat) : Int))
    (R i)
    (Iv (IntKind.i64.wrap (i + (1 : Int))) ∧ m (IntKind.i64.wrap (i + (1 : Int))) < m i))
   (R (if ((s.size : Nat) : Int) < ((prefixv.size : Nat) : Int) then ((s.size : Nat) : Int) else ((prefixv.size : Nat) : Int)))
theorem ok114 {s prefixv} {R : Int → Prop} (T : T114 s prefixv R) : Ok114 s prefixv R := by
  intro h  H
  have Y : Sy h [] h _ := Sy.startM H rfl
  apply calls114
  unfold S114
  unfold T114 at T
  obtain ⟨Iv, m, T0, T1⟩ := T
  obtain ⟨B, hB, YB⟩ := Y.cut [] [] rfl
  obtain ⟨JJ, hJJ⟩ : ∃ JJ : Nat → List Value → Heap → Prop, JJ = (fun k lz h' => ∃ (i : Int), lz = [.int .i64 i] ∧ Sy h [] h' ([] ++ B) ∧ Iv i ∧ m i = k) := ⟨_, rfl⟩
  refine ⟨fun lz h' => ∃ k, JJ k lz h', Lm JJ, ?_, ?_⟩
  · subst hJJ hB
    exact ⟨_, _, rfl, YB, T0, rfl⟩
  · clear YB T0 Y
    intro i hv hI
    obtain ⟨k, hI, hm⟩ := loopIn hI
    subst hJJ hB
    obtain ⟨i, e, Y, T, rfl⟩ := hI
    cases e
    replace T := T1 i T
    have Y : Sy _ _ _ [] := Y
    refine cnd_imp T (fun T => ?_) (fun T => ?_)
    · obtain ⟨q_3, q_4, T⟩ := T
      refine ⟨q_3, q_4, ?_⟩
      obtain ⟨xc, hq, T⟩ := T
      refine ⟨xc, hq, ?_⟩
      obtain ⟨Jv_2, T0, T1⟩ := T
      obtain ⟨B_2, hB_2, _⟩ := Y.cut [] [] rfl
      intro K
      have hK : ∀ (c2 : Int) (hv3 : Heap), (Sy h [] hv3 ([] ++ B_2) ∧ Jv_2 c2) → K c2 hv3 := by
        subst hB_2
        clear T0 Y
        rintro c2 hv3 ⟨Y, T⟩
        replace T := T1 c2 T
        have Y : Sy _ _ _ [] := Y
        unfold K
        obtain ⟨q, q_2, T⟩ := T
        refine ⟨q, q_2, ?_⟩
        obtain ⟨xc2, hq, T⟩ := T
        refine ⟨xc2, hq, ?_⟩
        refine cnd_imp T (fun T => ?_) (fun T => ?_)
        · exact ⟨_, Y.pick [] rfl, rfl, T⟩
        · exact loopBack hm ⟨_, rfl, Y.pick [] rfl, T.1, rfl⟩ T.2
      subst hB_2
      replace T := T0
      clear T0 T1
      refine cnd_imp T (fun T => ?_) (fun T => ?_)
      · obtain ⟨Jv, T0, T1⟩ := T
        obtain ⟨B_3, hB_3, _⟩ := Y.cut [] [] rfl
        refine ⟨fun lz h' => ∃ (c : Int), lz = [.int .u8 c] ∧ Sy h [] h' ([] ++ B_3) ∧ Jv c, ?_, ?_⟩
        · subst hB_3
          replace T := T0
          clear T0 T1
          refine cnd_imp T (fun T => ?_) (fun T => ?_)
          · exact ⟨_, rfl, Y.pick [] rfl, T⟩
          · exact ⟨_, rfl, Y.pick [] rfl, T⟩
        · subst hB_3
          clear T0 Y
          rintro c hv2 ⟨c, e, Y, T⟩
          cases e
          replace T := T1 c T
          have Y : Sy _ _ _ [] := Y
          exact hK _ _ ⟨Y.pick [] rfl, T⟩
      · exact hK _ _ ⟨Y.pick [] rfl, T⟩
    · exact ⟨_, Y.pick [] rfl, rfl, T⟩
/-- internal/strconv.lower -/
def S94 (c : Int) (h : Heap) (R : Value → Heap → Prop) : Prop :=
  R (.int .u8 (bits .or .u8 c (32 : Int))) h
theorem calls94 {h : Heap} {R : Value → Heap → Prop} (c : Int) (H : S94 c h R) : CallsH Tryz.prog 94 #[.int .u8 c] h R := by
  have e : S94 c h R = FX (envX [] 5) { loops := [], joins := [], blocks := [], draws := [] } Tryz.f94 (Tryz.f94.body.getD .skip) [.int .u8 c] h R := by kernel_rfl
  exact calls_of_FX (envX_ok _ _) Tryz.func94 (by kernel_rfl) (by kernel_rfl) (by kernel_rfl) (e ▸ H)
/-- internal/strconv.lower -/
def Ok94 (c : Int) (R : Int → Prop) : Prop :=
  ∀ (h : Heap), Hp h [] → CallsH Tryz.prog 94 #[.int .u8 c] h fun v h' => ∃ (rV : Int), Sy h [] h' [] ∧ v = .int .u8 rV ∧ R rV
theorem Ok94.mono {c} {R R' : Int → Prop} (H : Ok94 c R) (kz : ∀ rV, R rV → R' rV) : Ok94 c R' :=
  fun h  hp => (H h  hp).mono fun _ _ ⟨rV, P, e, q⟩ => ⟨rV, P, e, kz _ q⟩
def T94 (c : Int) (R : Int → Prop) : Prop :=
  R (bits .or .u8 c (32 : Int))
theorem ok94 {c} {R : Int → Prop} (T : T94 c R) : Ok94 c R := by
  intro h  H
  have Y : Sy h [] h _ := Sy.startM H rfl
  apply calls94
  unfold S94
  unfold T94 at T
  exact ⟨_, Y.pick [] rfl, rfl, T⟩
/-- internal/strconv.pack64 -/
def S120 (m : Int) (ev : Int) (h : Heap) (R : Value → Heap → Prop) : Prop :=
  cnd ((bits .and .u64 m (4503599627370496 : Int)) == (0 : Int))
   (callE Tryz.prog 88 #[.int .u64 m] fun v =>
   ∃ r : Nat, v = .float .f64 r ∧
   R (.tuple #[.float .f64 r, .nilIface]) h)
   (cnd (decide (ev ≥ (972 : Int)))
    (callE Tryz.prog 88 #[.int .u64 (bits .or .u64 (bits .and .u64 m (9223372036854775808 : Int)) (9218868437227405312 : Int))] fun v2 =>
    ∃ r2 : Nat, v2 = .float .f64 r2 ∧
    R (.tuple #[.float .f64 r2, .iface 64 (.int .i64 1)]) h)
    (0 ≤ (52 : Int) ∧ callE Tryz.prog 88 #[.int .u64 (bits .or .u64 (bits .andNot .u64 m (4503599627370496 : Int)) (IntKind.u64.wrap ((IntKind.u64.wrap (IntKind.i64.wrap ((1075 : Int) + ev))) * 2 ^ (min (Int.toNat (52 : Int)) 64))))] fun v3 =>
    ∃ r3 : Nat, v3 = .float .f64 r3 ∧
    R (.tuple #[.float .f64 r3, .nilIface]) h))
theorem calls120 {h : Heap} {R : Value → Heap → Prop} (m : Int) (ev : Int) (H : S120 m ev h R) : CallsH Tryz.prog 120 #[.int .u64 m, .int .i64 ev] h R := by
  have e : S120 m ev h R = FX (envX [] 26) { loops := [], joins := [], blocks := [], draws := [] } Tryz.f120 (Tryz.f120.body.getD .skip) [.int .u64 m, .int .i64 ev] h R := by kernel_rfl
  exact calls_of_FX (envX_ok _ _) Tryz.func120 (by kernel_rfl) (by kernel_rfl) (by kernel_rfl) (e ▸ H)
/-- internal/strconv.pack64 -/
def Ok120 (m : Int) (ev : Int) (R : Nat → Option Int → Prop) : Prop :=
  ∀ (h : Heap), Hp h [] → CallsH Tryz.prog 120 #[.int .u64 m, .int .i64 ev] h fun v h' => ∃ (raV : Nat) (rbE : Option Int), Sy h [] h' [] ∧ v = .tuple #[.float .f64 raV, (errV 64 rbE)] ∧ R raV rbE
theorem Ok120.mono {m ev} {R R' : Nat → Option Int → Prop} (H : Ok120 m ev R) (kz : ∀ raV rbE, R raV rbE → R' raV rbE) : Ok120 m ev R' :=
  fun h  hp => (H h  hp).mono fun _ _ ⟨raV, rbE, P, e, q⟩ => ⟨raV, rbE, P, e, kz _ _ q⟩
def T120 (m : Int) (ev : Int) (R : Nat → Option Int → Prop) : Prop :=
  cnd ((bits .and .u64 m (4503599627370496 : Int)) == (0 : Int))
   (callE Tryz.prog 88 #[.int .u64 m] fun v =>
   ∃ r : Nat, v = .float .f64 r ∧
   R r none)
   (cnd (decide (ev ≥ (972 : Int)))
    (callE Tryz.prog 88 #[.int .u64 (bits .or .u64 (bits .and .u64 m (9223372036854775808 : Int)) (9218868437227405312 : Int))] fun v2 =>
    ∃ r2 : Nat, v2 = .float .f64 r2 ∧
    R r2 (some 1))
    (0 ≤ (52 : Int) ∧ callE Tryz.prog 88 #[.int .u64 (bits .or .u64 (bits .andNot .u64 m (4503599627370496 : Int)) (IntKind.u64.wrap ((IntKind.u64.wrap (IntKind.i64.wrap ((1075 : Int) + ev))) * 2 ^ (min (Int.toNat (52 : Int)) 64))))] fun v3 =>
    ∃ r3 : Nat, v3 = .float .f64 r3 ∧
    R r3 none))
theorem ok120 {m ev} {R : Nat → Option Int → Prop} (T : T120 m ev R) : Ok120 m ev R := by
  intro h  H
  have Y : Sy h [] h _ := Sy.startM H rfl
  apply calls120
  unfold S120
  unfold T120 at T
  refine cnd_imp T (fun T => ?_) (fun T => ?_)
  · obtain ⟨Rx, hx, T⟩ := T
    refine ⟨Rx, hx, fun v hv => ?_⟩
    obtain ⟨r, rfl, T⟩ := T v hv
    refine ⟨r, rfl, ?_⟩
    exact ⟨_, none, Y.pick [] rfl, rfl, T⟩
  · refine cnd_imp T (fun T => ?_) (fun T => ?_)
    · obtain ⟨Rx_2, hx_2, T⟩ := T
      refine ⟨Rx_2, hx_2, fun v2 hv => ?_⟩
      obtain ⟨r2, rfl, T⟩ := T v2 hv
      refine ⟨r2, rfl, ?_⟩
      exact ⟨_, (some 1), Y.pick [] rfl, rfl, T⟩
    · obtain ⟨q, T⟩ := T
      refine ⟨q, ?_⟩
      obtain ⟨Rx_3, hx_3, T⟩ := T
      refine ⟨Rx_3, hx_3, fun v3 hv => ?_⟩
      obtain ⟨r3, rfl, T⟩ := T v3 hv
      refine ⟨r3, rfl, ?_⟩
      exact ⟨_, none, Y.pick [] rfl, rfl, T⟩
/-- internal/strconv.underscoreOK -/
def Ok117 (s : ByteArray) (R : Bool → Prop) : Prop :=
  ∀ (h : Heap), Hp h [] → CallsH Tryz.prog 117 #[.string s] h fun v h' => ∃ (rV : Bool), Sy h [] h' [] ∧ v = .bool rV ∧ R rV
theorem Ok117.mono {s} {R R' : Bool → Prop} (H : Ok117 s R) (kz : ∀ rV, R rV → R' rV) : Ok117 s R' :=
  fun h  hp => (H h  hp).mono fun _ _ ⟨rV, P, e, q⟩ => ⟨rV, P, e, kz _ q⟩
/-- internal/strconv.special -/
def S78 (s : ByteArray) (h : Heap) (R : Value → Heap → Prop) : Prop :=
  cnd (((s.size : Nat) : Int) == (0 : Int))
   (R (.tuple #[.float .f64 0, .int .i64 0, .bool false]) h)
   (0 ≤ (0 : Int) ∧ (0 : Int) < ((s.size : Nat) : Int) ∧ ∃ xc : UInt8, s[Int.toNat (0 : Int)]? = some xc ∧ ∃ Jv : List Value → Heap → Prop,
   ( ∃ Jv2 : List Value → Heap → Prop,
   ( let K := fun (x : Bool) (hv : Heap) =>
     (cnd x
      (0 ≤ (0 : Int) ∧ (0 : Int) < ((s.size : Nat) : Int) ∧ ∃ xc2 : UInt8, s[Int.toNat (0 : Int)]? = some xc2 ∧ ∃ Jv3 : List Value → Heap → Prop,
      ( cnd (((UInt8.toNat xc2 : Nat) : Int) == (45 : Int))
       (Jv3 [.int .i64 (-1)] hv)
       (Jv3 [.int .i64 1] hv)) ∧
      ∀ sign : Int, ∀ hv4, Jv3 [.int .i64 sign] hv4 →
      0 ≤ (1 : Int) ∧ (1 : Int) ≤ ((s.size : Nat) : Int) ∧ Jv2 [.string (s.extract (Int.toNat (1 : Int)) s.size), .int .i64 sign, .int .i64 1] hv4)
      (let K2 := fun (x2 : Bool) (hv2 : Heap) =>
       (cnd x2
        (Jv2 [.string s, .int .i64 1, .int .i64 0] hv2)
        (let K3 := fun (x3 : Bool) (hv3 : Heap) =>
         (cnd x3
          (callX Tryz.prog 114 #[.string s, .string (⟨#[110, 97, 110]⟩ : ByteArray)] hv3 [] fun v4 hv11 =>
          ∃ r4 : Int, v4 = .int .i64 r4 ∧
          cnd (r4 == (3 : Int))
           (callX Tryz.prog 116 #[] hv11 [] fun v5 hv12 =>
           ∃ r5 : Nat, v5 = .float .f64 r5 ∧
           R (.tuple #[.float .f64 r5, .int .i64 3, .bool true]) hv12)
           (Jv [] hv11))
          (Jv [] hv3))
        cnd (((UInt8.toNat xc : Nat) : Int) == (110 : Int))
         (K3 (((UInt8.toNat xc : Nat) : Int) == (110 : Int)) hv2)
         (K3 (((UInt8.toNat xc : Nat) : Int) == (78 : Int)) hv2)))
      cnd (((UInt8.toNat xc : Nat) : Int) == (105 : Int))
       (K2 (((UInt8.toNat xc : Nat) : Int) == (105 : Int)) hv)
       (K2 (((UInt8.toNat xc : Nat) : Int) == (73 : Int)) hv)))
    cnd (((UInt8.toNat xc : Nat) : Int) == (43 : Int))
     (K (((UInt8.toNat xc : Nat) : Int) == (43 : Int)) h)
     (K (((UInt8.toNat xc : Nat) : Int) == (45 : Int)) h)) ∧
   ∀ s2 : ByteArray, ∀ sign2 : Int, ∀ nsign : Int, ∀ hv5, Jv2 [.string s2, .int .i64 sign2, .int .i64 nsign] hv5 →
   callX Tryz.prog 114 #[.string s2, .string (⟨#[105, 110, 102, 105, 110, 105, 116, 121]⟩ : ByteArray)] hv5 [] fun v hv6 =>
   ∃ r : Int, v = .int .i64 r ∧
   let K4 := fun (n2 : Int) (hv8 : Heap) =>
    (cnd (n2 == (3 : Int))
     (callX Tryz.prog 115 #[.int .i64 sign2] hv8 [] fun v2 hv9 =>
     ∃ r2 : Nat, v2 = .float .f64 r2 ∧
     R (.tuple #[.float .f64 r2, .int .i64 (IntKind.i64.wrap (nsign + n2)), .bool true]) hv9)
     (cnd (n2 == (8 : Int))
      (callX Tryz.prog 115 #[.int .i64 sign2] hv8 [] fun v3 hv10 =>
      ∃ r3 : Nat, v3 = .float .f64 r3 ∧
      R (.tuple #[.float .f64 r3, .int .i64 (IntKind.i64.wrap (nsign + n2)), .bool true]) hv10)
      (Jv [] hv8)))
   cnd (decide ((3 : Int) < r))
    (∃ Jv4 : List Value → Heap → Prop,
    ( cnd (decide (r < (8 : Int)))
      (Jv4 [.int .i64 3] hv6)
      (Jv4 [.int .i64 r] hv6)) ∧
    ∀ n : Int, ∀ hv7, Jv4 [.int .i64 n] hv7 →
    K4 n hv7)
    (K4 r hv6)) ∧
   ∀ hv13, Jv [] hv13 →
   R (.tuple #[.float .f64 0, .int .i64 0, .bool false]) hv13)
theorem calls78 {h : Heap} {R : Value → Heap → Prop} (s : ByteArray) (H : S78 s h R) : CallsH Tryz.prog 78 #[.string s] h R := by
  have e : S78 s h R = FX (envX [] 50) { loops := [], joins := [(24, ⟨[0], [5], [], []⟩), (34, ⟨[5, 6], [7], [], []⟩)], blocks := [(0, ⟨[], [], [], []⟩), (2, ⟨[], [0, 5, 6], [], []⟩)], draws := [] } Tryz.f78 (Tryz.f78.body.getD .skip) [.string s] h R := by kernel_rfl
  exact calls_of_FX (envX_ok _ _) Tryz.func78 (by kernel_rfl) (by kernel_rfl) (by kernel_rfl) (e ▸ H)
/-- internal/strconv.special -/
def Ok78 (s : ByteArray) (R : Nat → Int → Bool → Prop) : Prop :=
  ∀ (h : Heap), Hp h [] → CallsH Tryz.prog 78 #[.string s] h fun v h' => ∃ (raV : Nat) (rbV : Int) (rcV : Bool), Sy h [] h' [] ∧ v = .tuple #[.float .f64 raV, .int .i64 rbV, .bool rcV] ∧ R raV rbV rcV
theorem Ok78.mono {s} {R R' : Nat → Int → Bool → Prop} (H : Ok78 s R) (kz : ∀ raV rbV rcV, R raV rbV rcV → R' raV rbV rcV) : Ok78 s R' :=
  fun h  hp => (H h  hp).mono fun _ _ ⟨raV, rbV, rcV, P, e, q⟩ => ⟨raV, rbV, rcV, P, e, kz _ _ _ q⟩
def T78 (s : ByteArray) (R : Nat → Int → Bool → Prop) : Prop :=
  cnd (((s.size : Nat) : Int) == (0 : Int))
   (R 0 0 false)
   (0 ≤ (0 : Int) ∧ (0 : Int) < ((s.size : Nat) : Int) ∧ ∃ xc : UInt8, s[Int.toNat (0 : Int)]? = some xc ∧ ∃ Jv : Prop,
   ( ∃ Jv2 : ByteArray → Int → Int → Prop,
   ( ∃ Jv_2 : Bool → Prop,
    ( cnd (((UInt8.toNat xc : Nat) : Int) == (43 : Int))
     (Jv_2 (((UInt8.toNat xc : Nat) : Int) == (43 : Int)))
     (Jv_2 (((UInt8.toNat xc : Nat) : Int) == (45 : Int)))) ∧
    ∀ x : Bool, Jv_2 x →
    cnd x
     (0 ≤ (0 : Int) ∧ (0 : Int) < ((s.size : Nat) : Int) ∧ ∃ xc2 : UInt8, s[Int.toNat (0 : Int)]? = some xc2 ∧ ∃ Jv3 : Int → Prop,
     ( cnd (((UInt8.toNat xc2 : Nat) : Int) == (45 : Int))
      (Jv3 (-1))
      (Jv3 1)) ∧
     ∀ sign : Int, Jv3 sign →
     0 ≤ (1 : Int) ∧ (1 : Int) ≤ ((s.size : Nat) : Int) ∧ Jv2 (s.extract (Int.toNat (1 : Int)) s.size) sign 1)
     (∃ Jv_3 : Bool → Prop,
     ( cnd (((UInt8.toNat xc : Nat) : Int) == (105 : Int))
      (Jv_3 (((UInt8.toNat xc : Nat) : Int) == (105 : Int)))
      (Jv_3 (((UInt8.toNat xc : Nat) : Int) == (73 : Int)))) ∧
     ∀ x2 : Bool, Jv_3 x2 →
     cnd x2
      (Jv2 s 1 0)
      (∃ Jv_4 : Bool → Prop,
      ( cnd (((UInt8.toNat xc : Nat) : Int) == (110 : Int))
       (Jv_4 (((UInt8.toNat xc : Nat) : Int) == (110 : Int)))
       (Jv_4 (((UInt8.toNat xc : Nat) : Int) == (78 : Int)))) ∧
      ∀ x3 : Bool, Jv_4 x3 →
      cnd x3
       (Ok114 s (⟨#[110, 97, 110]⟩ : ByteArray) (fun r4 =>
       cnd (r4 == (3 : Int))
        (Ok116 (fun r5 =>
        R r5 3 true))
        (Jv)))
       (Jv)))) ∧
   ∀ s2 : ByteArray, ∀ sign2 : Int, ∀ nsign : Int, Jv2 s2 sign2 nsign →
   Ok114 s2 (⟨#[105, 110, 102, 105, 110, 105, 116, 121]⟩ : ByteArray) (fun r =>
   ∃ Jv_5 : Int → Prop,
   ( cnd (decide ((3 : Int) < r))
     (∃ Jv4 : Int → Prop,
     ( cnd (decide (r < (8 : Int)))
      (Jv4 3)
      (Jv4 r)) ∧
     ∀ n : Int, Jv4 n →
     Jv_5 n)
     (Jv_5 r)) ∧
   ∀ n2 : Int, Jv_5 n2 →
   cnd (n2 == (3 : Int))
    (Ok115 sign2 (fun r2 =>
    R r2 (IntKind.i64.wrap (nsign + n2)) true))
    (cnd (n2 == (8 : Int))
     (Ok115 sign2 (fun r3 =>
     R r3 (IntKind.i64.wrap (nsign + n2)) true))
     (Jv)))) ∧
   (Jv →
   R 0 0 false))
theorem ok78 {s} {R : Nat → Int → Bool → Prop} (T : T78 s R) : Ok78 s R := by
  intro h  H
  have Y : Sy h [] h _ := Sy.startM H rfl
  apply calls78
  unfold S78
  unfold T78 at T
  refine cnd_imp T (fun T => ?_) (fun T => ?_)
  · exact ⟨_, _, _, Y.pick [] rfl, rfl, T⟩
  · obtain ⟨q_5, q_6, T⟩ := T
    refine ⟨q_5, q_6, ?_⟩
    obtain ⟨xc, hq, T⟩ := T
    refine ⟨xc, hq, ?_⟩
    obtain ⟨Jv, T0, T1⟩ := T
    obtain ⟨B, hB, _⟩ := Y.cut [] [] rfl
    refine ⟨fun lz h' => lz = [] ∧ Sy h [] h' ([] ++ B) ∧ Jv, ?_, ?_⟩
    · subst hB
      replace T := T0
      clear T0 T1
      obtain ⟨Jv2, T0, T1⟩ := T
      obtain ⟨B_2, hB_2, _⟩ := Y.cut [] [] rfl
      refine ⟨fun lz h' => ∃ (s2 : ByteArray) (sign2 : Int) (nsign : Int), lz = [.string s2, .int .i64 sign2, .int .i64 nsign] ∧ Sy h [] h' ([] ++ B_2) ∧ Jv2 s2 sign2 nsign, ?_, ?_⟩
      · subst hB_2
        replace T := T0
        clear T0 T1
        obtain ⟨Jv_2, T0, T1⟩ := T
        obtain ⟨B_3, hB_3, _⟩ := Y.cut [] [] rfl
        intro K
        have hK : ∀ (x : Bool) (hv : Heap), (Sy h [] hv ([] ++ B_3) ∧ Jv_2 x) → K x hv := by
          subst hB_3
          clear T0 Y
          rintro x hv ⟨Y, T⟩
          replace T := T1 x T
          have Y : Sy _ _ _ [] := Y
          unfold K
          refine cnd_imp T (fun T => ?_) (fun T => ?_)
          · obtain ⟨q_3, q_4, T⟩ := T
            refine ⟨q_3, q_4, ?_⟩
            obtain ⟨xc2, hq, T⟩ := T
            refine ⟨xc2, hq, ?_⟩
            obtain ⟨Jv3, T0, T1⟩ := T
            obtain ⟨B_4, hB_4, _⟩ := Y.cut [] [] rfl
            refine ⟨fun lz h' => ∃ (sign : Int), lz = [.int .i64 sign] ∧ Sy h [] h' ([] ++ B_4) ∧ Jv3 sign, ?_, ?_⟩
            · subst hB_4
              replace T := T0
              clear T0 T1
              refine cnd_imp T (fun T => ?_) (fun T => ?_)
              · exact ⟨_, rfl, Y.pick [] rfl, T⟩
              · exact ⟨_, rfl, Y.pick [] rfl, T⟩
            · subst hB_4
              clear T0 Y
              rintro sign hv4 ⟨sign, e, Y, T⟩
              cases e
              replace T := T1 sign T
              have Y : Sy _ _ _ [] := Y
              obtain ⟨q, q_2, T⟩ := T
              refine ⟨q, q_2, ?_⟩
              exact ⟨_, _, _, rfl, Y.pick [] rfl, T⟩
          · obtain ⟨Jv_3, T0, T1⟩ := T
            obtain ⟨B_5, hB_5, _⟩ := Y.cut [] [] rfl
            intro K2
            have hK2 : ∀ (x2 : Bool) (hv2 : Heap), (Sy h [] hv2 ([] ++ B_5) ∧ Jv_3 x2) → K2 x2 hv2 := by
              subst hB_5
              clear T0 Y
              rintro x2 hv2 ⟨Y, T⟩
              replace T := T1 x2 T
              have Y : Sy _ _ _ [] := Y
              unfold K2
              refine cnd_imp T (fun T => ?_) (fun T => ?_)
              · exact ⟨_, _, _, rfl, Y.pick [] rfl, T⟩
              · obtain ⟨Jv_4, T0, T1⟩ := T
                obtain ⟨B_6, hB_6, _⟩ := Y.cut [] [] rfl
                intro K3
                have hK3 : ∀ (x3 : Bool) (hv3 : Heap), (Sy h [] hv3 ([] ++ B_6) ∧ Jv_4 x3) → K3 x3 hv3 := by
                  subst hB_6
                  clear T0 Y
                  rintro x3 hv3 ⟨Y, T⟩
                  replace T := T1 x3 T
                  have Y : Sy _ _ _ [] := Y
                  unfold K3
                  refine cnd_imp T (fun T => ?_) (fun T => ?_)
                  · refine callX_sy (T _ (Hp.nil _)) (fun _ _ ⟨_, p, _⟩ => p.fr) alln ?_
                    rintro v4 hv11 ⟨r4, PP, rfl, T⟩
                    have Y : Sy _ _ hv11 [] := Y.gr PP.fr
                    clear PP
                    refine ⟨r4, rfl, ?_⟩
                    refine cnd_imp T (fun T => ?_) (fun T => ?_)
                    · refine callX_sy (T _ (Hp.nil _)) (fun _ _ ⟨_, p, _⟩ => p.fr) alln ?_
                      rintro v5 hv12 ⟨r5, PP, rfl, T⟩
                      have Y : Sy _ _ hv12 [] := Y.gr PP.fr
                      clear PP
                      refine ⟨r5, rfl, ?_⟩
                      exact ⟨_, _, _, Y.pick [] rfl, rfl, T⟩
                    · exact ⟨rfl, Y.pick [] rfl, T⟩
                  · exact ⟨rfl, Y.pick [] rfl, T⟩
                subst hB_6
                replace T := T0
                clear T0 T1
                refine cnd_imp T (fun T => ?_) (fun T => ?_)
                · exact hK3 _ _ ⟨Y.pick [] rfl, T⟩
                · exact hK3 _ _ ⟨Y.pick [] rfl, T⟩
            subst hB_5
            replace T := T0
            clear T0 T1
            refine cnd_imp T (fun T => ?_) (fun T => ?_)
            · exact hK2 _ _ ⟨Y.pick [] rfl, T⟩
            · exact hK2 _ _ ⟨Y.pick [] rfl, T⟩
        subst hB_3
        replace T := T0
        clear T0 T1
        refine cnd_imp T (fun T => ?_) (fun T => ?_)
        · exact hK _ _ ⟨Y.pick [] rfl, T⟩
        · exact hK _ _ ⟨Y.pick [] rfl, T⟩
      · subst hB_2
        clear T0 Y
        rintro s2 sign2 nsign hv5 ⟨s2, sign2, nsign, e, Y, T⟩
        cases e
        replace T := T1 s2 sign2 nsign T
        have Y : Sy _ _ _ [] := Y
        refine callX_sy (T _ (Hp.nil _)) (fun _ _ ⟨_, p, _⟩ => p.fr) alln ?_
        rintro v hv6 ⟨r, PP, rfl, T⟩
        have Y : Sy _ _ hv6 [] := Y.gr PP.fr
        clear PP
        refine ⟨r, rfl, ?_⟩
        obtain ⟨Jv_5, T0, T1⟩ := T
        obtain ⟨B_7, hB_7, _⟩ := Y.cut [] [] rfl
        intro K4
        have hK4 : ∀ (n2 : Int) (hv8 : Heap), (Sy h [] hv8 ([] ++ B_7) ∧ Jv_5 n2) → K4 n2 hv8 := by
          subst hB_7
          clear T0 Y
          rintro n2 hv8 ⟨Y, T⟩
          replace T := T1 n2 T
          have Y : Sy _ _ _ [] := Y
          unfold K4
          refine cnd_imp T (fun T => ?_) (fun T => ?_)
          · refine callX_sy (T _ (Hp.nil _)) (fun _ _ ⟨_, p, _⟩ => p.fr) alln ?_
            rintro v2 hv9 ⟨r2, PP, rfl, T⟩
            have Y : Sy _ _ hv9 [] := Y.gr PP.fr
            clear PP
            refine ⟨r2, rfl, ?_⟩
            exact ⟨_, _, _, Y.pick [] rfl, rfl, T⟩
          · refine cnd_imp T (fun T => ?_) (fun T => ?_)
            · refine callX_sy (T _ (Hp.nil _)) (fun _ _ ⟨_, p, _⟩ => p.fr) alln ?_
              rintro v3 hv10 ⟨r3, PP, rfl, T⟩
              have Y : Sy _ _ hv10 [] := Y.gr PP.fr
              clear PP
              refine ⟨r3, rfl, ?_⟩
              exact ⟨_, _, _, Y.pick [] rfl, rfl, T⟩
            · exact ⟨rfl, Y.pick [] rfl, T⟩
        subst hB_7
        replace T := T0
        clear T0 T1
        refine cnd_imp T (fun T => ?_) (fun T => ?_)
        · obtain ⟨Jv4, T0, T1⟩ := T
          obtain ⟨B_8, hB_8, _⟩ := Y.cut [] [] rfl
          refine ⟨fun lz h' => ∃ (n : Int), lz = [.int .i64 n] ∧ Sy h [] h' ([] ++ B_8) ∧ Jv4 n, ?_, ?_⟩
          · subst hB_8
            replace T := T0
            clear T0 T1
            refine cnd_imp T (fun T => ?_) (fun T => ?_)
            · exact ⟨_, rfl, Y.pick [] rfl, T⟩
            · exact ⟨_, rfl, Y.pick [] rfl, T⟩
          · subst hB_8
            clear T0 Y
            rintro n hv7 ⟨n, e, Y, T⟩
            cases e
            replace T := T1 n T
            have Y : Sy _ _ _ [] := Y
            exact hK4 _ _ ⟨Y.pick [] rfl, T⟩
        · exact hK4 _ _ ⟨Y.pick [] rfl, T⟩
    · subst hB
      clear T0 Y
      rintro hv13 ⟨e, Y, T⟩
      cases e
      replace T := T1 T
      have Y : Sy _ _ _ [] := Y
      exact ⟨_, _, _, Y.pick [] rfl, rfl, T⟩
/-- internal/strconv.readFloat -/
def S79 (s : ByteArray) (h : Heap) (R : Value → Heap → Prop) : Prop :=
  cnd (decide ((0 : Int) ≥ ((s.size : Nat) : Int)))
   (R (.tuple #[.int .u64 0, .int .i64 0, .bool false, .bool false, .bool false, .int .i64 0, .bool false]) h)
   (0 ≤ (0 : Int) ∧ (0 : Int) < ((s.size : Nat) : Int) ∧ ∃ xc : UInt8, s[Int.toNat (0 : Int)]? = some xc ∧ ∃ Jv : List Value → Heap → Prop,
   ( cnd (((UInt8.toNat xc : Nat) : Int) == (43 : Int))
    (Jv [.bool false, .int .i64 (IntKind.i64.wrap ((0 : Int) + (1 : Int)))] h)
    (∃ Jv2 : List Value → Heap → Prop,
    ( cnd (((UInt8.toNat xc : Nat) : Int) == (45 : Int))
      (Jv2 [.bool true, .int .i64 (IntKind.i64.wrap ((0 : Int) + (1 : Int)))] h)
      (Jv2 [.bool false, .int .i64 0] h)) ∧
    ∀ neg : Bool, ∀ i : Int, ∀ hv, Jv2 [.bool neg, .int .i64 i] hv →
    Jv [.bool neg, .int .i64 i] hv)) ∧
   ∀ neg2 : Bool, ∀ i2 : Int, ∀ hv2, Jv [.bool neg2, .int .i64 i2] hv2 →
   let K := fun (hv4 : Heap) =>
    (∃ Jv17 : List Value → Heap → Prop,
    ( ∃ (Iv3 : List Value → Heap → Prop) (m3 : List Value → Heap → Nat), Iv3 [.int .u64 0, .bool false, .int .i64 i2, .bool false, .bool false, .bool false, .int .i64 0, .int .i64 0, .int .i64 0] hv4 ∧
    ∀ mantissa6 : Int, ∀ trunc7 : Bool, ∀ i12 : Int, ∀ underscores9 : Bool, ∀ sawdot4 : Bool, ∀ sawdigits4 : Bool, ∀ nd4 : Int, ∀ ndMant7 : Int, ∀ dp8 : Int, ∀ hv35, Iv3 [.int .u64 mantissa6, .bool trunc7, .int .i64 i12, .bool underscores9, .bool sawdot4, .bool sawdigits4, .int .i64 nd4, .int .i64 ndMant7, .int .i64 dp8] hv35 →
    cnd (decide (i12 < ((s.size : Nat) : Int)))
     (∃ Jv18 : List Value → Heap → Prop,
     ( 0 ≤ i12 ∧ i12 < ((s.size : Nat) : Int) ∧ ∃ xc15 : UInt8, s[Int.toNat i12]? = some xc15 ∧ cnd (true == (((UInt8.toNat xc15 : Nat) : Int) == (95 : Int)))
       (Jv18 [.int .u64 mantissa6, .bool trunc7, .bool true, .bool sawdot4, .bool sawdigits4, .int .i64 nd4, .int .i64 ndMant7, .int .i64 dp8] hv35)
       (cnd (true == (((UInt8.toNat xc15 : Nat) : Int) == (46 : Int)))
        (cnd sawdot4
         (Jv17 [.int .u64 mantissa6, .bool trunc7, .int .i64 i12, .bool underscores9, .bool sawdot4, .bool sawdigits4, .int .i64 nd4, .int .i64 ndMant7, .int .i64 dp8] hv35)
         (Jv18 [.int .u64 mantissa6, .bool trunc7, .bool underscores9, .bool true, .bool sawdigits4, .int .i64 nd4, .int .i64 ndMant7, .int .i64 nd4] hv35))
        (let K11 := fun (x4 : Bool) (hv36 : Heap) =>
         (cnd x4
          (let K12 := fun (hv37 : Heap) =>
           (∃ Jv19 : List Value → Heap → Prop,
           ( cnd (decide (ndMant7 < (19 : Int)))
            (Jv19 [.int .u64 (IntKind.u64.wrap ((IntKind.u64.wrap (mantissa6 * (10 : Int))) + (IntKind.u64.wrap (IntKind.u8.wrap (((UInt8.toNat xc15 : Nat) : Int) - (48 : Int)))))), .bool trunc7, .int .i64 (IntKind.i64.wrap (ndMant7 + (1 : Int)))] hv37)
            (∃ Jv20 : List Value → Heap → Prop,
            ( cnd (((UInt8.toNat xc15 : Nat) : Int) != (48 : Int))
              (Jv20 [.bool true] hv37)
              (Jv20 [.bool trunc7] hv37)) ∧
            ∀ trunc8 : Bool, ∀ hv38, Jv20 [.bool trunc8] hv38 →
            Jv19 [.int .u64 mantissa6, .bool trunc8, .int .i64 ndMant7] hv38)) ∧
           ∀ mantissa7 : Int, ∀ trunc9 : Bool, ∀ ndMant8 : Int, ∀ hv39, Jv19 [.int .u64 mantissa7, .bool trunc9, .int .i64 ndMant8] hv39 →
           Jv18 [.int .u64 mantissa7, .bool trunc9, .bool underscores9, .bool sawdot4, .bool true, .int .i64 (IntKind.i64.wrap (nd4 + (1 : Int))), .int .i64 ndMant8, .int .i64 dp8] hv39)
          cnd (((UInt8.toNat xc15 : Nat) : Int) == (48 : Int))
           (cnd (nd4 == (0 : Int))
            (Jv18 [.int .u64 mantissa6, .bool trunc7, .bool underscores9, .bool sawdot4, .bool true, .int .i64 nd4, .int .i64 ndMant7, .int .i64 (IntKind.i64.wrap (dp8 - (1 : Int)))] hv36)
            (K12 hv36))
           (K12 hv36))
          (let K13 := fun (x5 : Bool) (hv42 : Heap) =>
           (cnd x5
            (∃ Jv21 : List Value → Heap → Prop,
            ( cnd (decide (ndMant7 < (19 : Int)))
             (callX Tryz.prog 94 #[.int .u8 ((UInt8.toNat xc15 : Nat) : Int)] hv42 [] fun v9 hv43 =>
             ∃ r9 : Int, v9 = .int .u8 r9 ∧
             Jv21 [.int .u64 (IntKind.u64.wrap ((IntKind.u64.wrap (mantissa6 * (16 : Int))) + (IntKind.u64.wrap (IntKind.u8.wrap ((IntKind.u8.wrap (r9 - (97 : Int))) + (10 : Int)))))), .bool trunc7, .int .i64 (IntKind.i64.wrap (ndMant7 + (1 : Int)))] hv43)
             (Jv21 [.int .u64 mantissa6, .bool true, .int .i64 ndMant7] hv42)) ∧
            ∀ mantissa8 : Int, ∀ trunc10 : Bool, ∀ ndMant9 : Int, ∀ hv44, Jv21 [.int .u64 mantissa8, .bool trunc10, .int .i64 ndMant9] hv44 →
            Jv18 [.int .u64 mantissa8, .bool trunc10, .bool underscores9, .bool sawdot4, .bool true, .int .i64 (IntKind.i64.wrap (nd4 + (1 : Int))), .int .i64 ndMant9, .int .i64 dp8] hv44)
            (Jv17 [.int .u64 mantissa6, .bool trunc7, .int .i64 i12, .bool underscores9, .bool sawdot4, .bool sawdigits4, .int .i64 nd4, .int .i64 ndMant7, .int .i64 dp8] hv42))
          cnd ((10 : Int) == (16 : Int))
           (callX Tryz.prog 94 #[.int .u8 ((UInt8.toNat xc15 : Nat) : Int)] hv36 [] fun v7 hv40 =>
           ∃ r7 : Int, v7 = .int .u8 r7 ∧
           cnd (decide ((97 : Int) ≤ r7))
            (callX Tryz.prog 94 #[.int .u8 ((UInt8.toNat xc15 : Nat) : Int)] hv40 [] fun v8 hv41 =>
            ∃ r8 : Int, v8 = .int .u8 r8 ∧
            K13 (true == (decide (r8 ≤ (102 : Int)))) hv41)
            (K13 (true == false) hv40))
           (K13 (true == false) hv36)))
        cnd (decide ((48 : Int) ≤ ((UInt8.toNat xc15 : Nat) : Int)))
         (K11 (true == (decide (((UInt8.toNat xc15 : Nat) : Int) ≤ (57 : Int)))) hv35)
         (K11 (true == false) hv35)))) ∧
     ∀ mantissa9 : Int, ∀ trunc11 : Bool, ∀ underscores10 : Bool, ∀ sawdot5 : Bool, ∀ sawdigits5 : Bool, ∀ nd5 : Int, ∀ ndMant10 : Int, ∀ dp9 : Int, ∀ hv45, Jv18 [.int .u64 mantissa9, .bool trunc11, .bool underscores10, .bool sawdot5, .bool sawdigits5, .int .i64 nd5, .int .i64 ndMant10, .int .i64 dp9] hv45 →
     Iv3 [.int .u64 mantissa9, .bool trunc11, .int .i64 (IntKind.i64.wrap (i12 + (1 : Int))), .bool underscores10, .bool sawdot5, .bool sawdigits5, .int .i64 nd5, .int .i64 ndMant10, .int .i64 dp9] hv45 ∧ m3 [.int .u64 mantissa9, .bool trunc11, .int .i64 (IntKind.i64.wrap (i12 + (1 : Int))), .bool underscores10, .bool sawdot5, .bool sawdigits5, .int .i64 nd5, .int .i64 ndMant10, .int .i64 dp9] hv45 < m3 [.int .u64 mantissa6, .bool trunc7, .int .i64 i12, .bool underscores9, .bool sawdot4, .bool sawdigits4, .int .i64 nd4, .int .i64 ndMant7, .int .i64 dp8] hv35)
     (Jv17 [.int .u64 mantissa6, .bool trunc7, .int .i64 i12, .bool underscores9, .bool sawdot4, .bool sawdigits4, .int .i64 nd4, .int .i64 ndMant7, .int .i64 dp8] hv35)) ∧
    ∀ mantissa10 : Int, ∀ trunc12 : Bool, ∀ i13 : Int, ∀ underscores11 : Bool, ∀ sawdot6 : Bool, ∀ sawdigits6 : Bool, ∀ nd6 : Int, ∀ ndMant11 : Int, ∀ dp10 : Int, ∀ hv46, Jv17 [.int .u64 mantissa10, .bool trunc12, .int .i64 i13, .bool underscores11, .bool sawdot6, .bool sawdigits6, .int .i64 nd6, .int .i64 ndMant11, .int .i64 dp10] hv46 →
    cnd (!sawdigits6)
     (R (.tuple #[.int .u64 mantissa10, .int .i64 0, .bool neg2, .bool trunc12, .bool false, .int .i64 i13, .bool false]) hv46)
     (∃ Jv22 : List Value → Heap → Prop,
     ( cnd (!sawdot6)
      (Jv22 [.int .i64 nd6] hv46)
      (Jv22 [.int .i64 dp10] hv46)) ∧
     ∀ dp11 : Int, ∀ hv47, Jv22 [.int .i64 dp11] hv47 →
     ∃ Jv23 : List Value → Heap → Prop,
     ( cnd ((10 : Int) == (16 : Int))
      (Jv23 [.int .i64 (IntKind.i64.wrap (ndMant11 * (4 : Int))), .int .i64 (IntKind.i64.wrap (dp11 * (4 : Int)))] hv47)
      (Jv23 [.int .i64 ndMant11, .int .i64 dp11] hv47)) ∧
     ∀ ndMant12 : Int, ∀ dp12 : Int, ∀ hv48, Jv23 [.int .i64 ndMant12, .int .i64 dp12] hv48 →
     let K18 := fun (i19 : Int) (underscores16 : Bool) (dp14 : Int) (hv60 : Heap) =>
      (∃ Jv29 : List Value → Heap → Prop,
      ( cnd (mantissa10 != (0 : Int))
       (Jv29 [.int .i64 (IntKind.i64.wrap (dp14 - ndMant12))] hv60)
       (Jv29 [.int .i64 0] hv60)) ∧
      ∀ exp2 : Int, ∀ hv61, Jv29 [.int .i64 exp2] hv61 →
      let K19 := fun (hv63 : Heap) =>
       (R (.tuple #[.int .u64 mantissa10, .int .i64 exp2, .bool neg2, .bool trunc12, .bool false, .int .i64 i19, .bool true]) hv63)
      cnd underscores16
       (0 ≤ i19 ∧ i19 ≤ ((s.size : Nat) : Int) ∧ callX Tryz.prog 117 #[.string (s.extract 0 (Int.toNat i19))] hv61 [] fun v11 hv62 =>
       ∃ r11 : Bool, v11 = .bool r11 ∧
       cnd (!r11)
        (R (.tuple #[.int .u64 mantissa10, .int .i64 exp2, .bool neg2, .bool trunc12, .bool false, .int .i64 i19, .bool false]) hv62)
        (K19 hv62))
       (K19 hv61))
     cnd (decide (i13 < ((s.size : Nat) : Int)))
      (0 ≤ i13 ∧ i13 < ((s.size : Nat) : Int) ∧ ∃ xc16 : UInt8, s[Int.toNat i13]? = some xc16 ∧ callX Tryz.prog 94 #[.int .u8 ((UInt8.toNat xc16 : Nat) : Int)] hv48 [] fun v10 hv49 =>
      ∃ r10 : Int, v10 = .int .u8 r10 ∧
      ∃ Jv24 : List Value → Heap → Prop,
      ( cnd (r10 == (101 : Int))
       (cnd (decide ((IntKind.i64.wrap (i13 + (1 : Int))) ≥ ((s.size : Nat) : Int)))
        (R (.tuple #[.int .u64 mantissa10, .int .i64 0, .bool neg2, .bool trunc12, .bool false, .int .i64 (IntKind.i64.wrap (i13 + (1 : Int))), .bool false]) hv49)
        (0 ≤ (IntKind.i64.wrap (i13 + (1 : Int))) ∧ (IntKind.i64.wrap (i13 + (1 : Int))) < ((s.size : Nat) : Int) ∧ ∃ xc17 : UInt8, s[Int.toNat (IntKind.i64.wrap (i13 + (1 : Int)))]? = some xc17 ∧ ∃ Jv25 : List Value → Heap → Prop,
        ( cnd (((UInt8.toNat xc17 : Nat) : Int) == (43 : Int))
          (Jv25 [.int .i64 (IntKind.i64.wrap ((IntKind.i64.wrap (i13 + (1 : Int))) + (1 : Int))), .int .i64 1] hv49)
          (∃ Jv26 : List Value → Heap → Prop,
          ( cnd (((UInt8.toNat xc17 : Nat) : Int) == (45 : Int))
           (Jv26 [.int .i64 (IntKind.i64.wrap ((IntKind.i64.wrap (i13 + (1 : Int))) + (1 : Int))), .int .i64 (-1)] hv49)
           (Jv26 [.int .i64 (IntKind.i64.wrap (i13 + (1 : Int))), .int .i64 1] hv49)) ∧
          ∀ i14 : Int, ∀ esign3 : Int, ∀ hv50, Jv26 [.int .i64 i14, .int .i64 esign3] hv50 →
          Jv25 [.int .i64 i14, .int .i64 esign3] hv50)) ∧
        ∀ i15 : Int, ∀ esign4 : Int, ∀ hv51, Jv25 [.int .i64 i15, .int .i64 esign4] hv51 →
        let K14 := fun (hv52 : Heap) =>
         (R (.tuple #[.int .u64 mantissa10, .int .i64 0, .bool neg2, .bool trunc12, .bool false, .int .i64 i15, .bool false]) hv52)
        cnd (decide (i15 ≥ ((s.size : Nat) : Int)))
         (K14 hv51)
         (0 ≤ i15 ∧ i15 < ((s.size : Nat) : Int) ∧ ∃ xc18 : UInt8, s[Int.toNat i15]? = some xc18 ∧ cnd (decide (((UInt8.toNat xc18 : Nat) : Int) < (48 : Int)))
          (K14 hv51)
          (0 ≤ i15 ∧ i15 < ((s.size : Nat) : Int) ∧ ∃ xc19 : UInt8, s[Int.toNat i15]? = some xc19 ∧ cnd (decide (((UInt8.toNat xc19 : Nat) : Int) > (57 : Int)))
           (R (.tuple #[.int .u64 mantissa10, .int .i64 0, .bool neg2, .bool trunc12, .bool false, .int .i64 i15, .bool false]) hv51)
           (let K17 := fun (i17 : Int) (underscores14 : Bool) (ev8 : Int) (hv58 : Heap) =>
            (Jv24 [.int .i64 i17, .bool underscores14, .int .i64 (IntKind.i64.wrap (dp12 + (IntKind.i64.wrap (ev8 * esign4))))] hv58)
           ∃ (Iv4 : List Value → Heap → Prop) (m4 : List Value → Heap → Nat), Iv4 [.int .i64 i15, .bool underscores11, .int .i64 0] hv51 ∧
           ∀ i16 : Int, ∀ underscores12 : Bool, ∀ ev5 : Int, ∀ hv53, Iv4 [.int .i64 i16, .bool underscores12, .int .i64 ev5] hv53 →
           let K16 := fun (hv55 : Heap) =>
            (∃ Jv27 : List Value → Heap → Prop,
            ( 0 ≤ i16 ∧ i16 < ((s.size : Nat) : Int) ∧ ∃ xc24 : UInt8, s[Int.toNat i16]? = some xc24 ∧ cnd (((UInt8.toNat xc24 : Nat) : Int) == (95 : Int))
              (Jv27 [.bool true, .int .i64 ev5] hv55)
              (∃ Jv28 : List Value → Heap → Prop,
              ( cnd (decide (ev5 < (10000 : Int)))
               (0 ≤ i16 ∧ i16 < ((s.size : Nat) : Int) ∧ ∃ xc25 : UInt8, s[Int.toNat i16]? = some xc25 ∧ Jv28 [.int .i64 (IntKind.i64.wrap ((IntKind.i64.wrap ((IntKind.i64.wrap (ev5 * (10 : Int))) + (IntKind.i64.wrap ((UInt8.toNat xc25 : Nat) : Int)))) - (48 : Int)))] hv55)
               (Jv28 [.int .i64 ev5] hv55)) ∧
              ∀ ev6 : Int, ∀ hv56, Jv28 [.int .i64 ev6] hv56 →
              Jv27 [.bool underscores12, .int .i64 ev6] hv56)) ∧
            ∀ underscores13 : Bool, ∀ ev7 : Int, ∀ hv57, Jv27 [.bool underscores13, .int .i64 ev7] hv57 →
            Iv4 [.int .i64 (IntKind.i64.wrap (i16 + (1 : Int))), .bool underscores13, .int .i64 ev7] hv57 ∧ m4 [.int .i64 (IntKind.i64.wrap (i16 + (1 : Int))), .bool underscores13, .int .i64 ev7] hv57 < m4 [.int .i64 i16, .bool underscores12, .int .i64 ev5] hv53)
           let K15 := fun (x6 : Bool) (hv54 : Heap) =>
            (cnd x6
             (K16 hv54)
             (K17 i16 underscores12 ev5 hv54))
           cnd (decide (i16 < ((s.size : Nat) : Int)))
            (0 ≤ i16 ∧ i16 < ((s.size : Nat) : Int) ∧ ∃ xc20 : UInt8, s[Int.toNat i16]? = some xc20 ∧ cnd (decide ((48 : Int) ≤ ((UInt8.toNat xc20 : Nat) : Int)))
             (0 ≤ i16 ∧ i16 < ((s.size : Nat) : Int) ∧ ∃ xc21 : UInt8, s[Int.toNat i16]? = some xc21 ∧ cnd (decide (((UInt8.toNat xc21 : Nat) : Int) ≤ (57 : Int)))
              (K16 hv53)
              (0 ≤ i16 ∧ i16 < ((s.size : Nat) : Int) ∧ ∃ xc22 : UInt8, s[Int.toNat i16]? = some xc22 ∧ K15 (((UInt8.toNat xc22 : Nat) : Int) == (95 : Int)) hv53))
             (0 ≤ i16 ∧ i16 < ((s.size : Nat) : Int) ∧ ∃ xc23 : UInt8, s[Int.toNat i16]? = some xc23 ∧ K15 (((UInt8.toNat xc23 : Nat) : Int) == (95 : Int)) hv53))
            (K17 i16 underscores12 ev5 hv53))))))
       (cnd ((10 : Int) == (16 : Int))
        (R (.tuple #[.int .u64 mantissa10, .int .i64 0, .bool neg2, .bool trunc12, .bool false, .int .i64 i13, .bool false]) hv49)
        (Jv24 [.int .i64 i13, .bool underscores11, .int .i64 dp12] hv49))) ∧
      ∀ i18 : Int, ∀ underscores15 : Bool, ∀ dp13 : Int, ∀ hv59, Jv24 [.int .i64 i18, .bool underscores15, .int .i64 dp13] hv59 →
      K18 i18 underscores15 dp13 hv59)
      (cnd ((10 : Int) == (16 : Int))
       (R (.tuple #[.int .u64 mantissa10, .int .i64 0, .bool neg2, .bool trunc12, .bool false, .int .i64 i13, .bool false]) hv48)
       (K18 i13 underscores11 dp12 hv48))))
   cnd (decide ((IntKind.i64.wrap (i2 + (2 : Int))) < ((s.size : Nat) : Int)))
    (0 ≤ i2 ∧ i2 < ((s.size : Nat) : Int) ∧ ∃ xc2 : UInt8, s[Int.toNat i2]? = some xc2 ∧ cnd (((UInt8.toNat xc2 : Nat) : Int) == (48 : Int))
     (0 ≤ (IntKind.i64.wrap (i2 + (1 : Int))) ∧ (IntKind.i64.wrap (i2 + (1 : Int))) < ((s.size : Nat) : Int) ∧ ∃ xc3 : UInt8, s[Int.toNat (IntKind.i64.wrap (i2 + (1 : Int)))]? = some xc3 ∧ callX Tryz.prog 94 #[.int .u8 ((UInt8.toNat xc3 : Nat) : Int)] hv2 [] fun v hv3 =>
     ∃ r : Int, v = .int .u8 r ∧
     ∃ Jv3 : List Value → Heap → Prop,
     ( cnd (r == (120 : Int))
      (Jv3 [.bool true, .int .i64 (IntKind.i64.wrap (i2 + (2 : Int))), .int .u64 16, .int .i64 16, .int .u8 112] hv3)
      (Jv3 [.bool false, .int .i64 i2, .int .u64 10, .int .i64 19, .int .u8 101] hv3)) ∧
     ∀ hex : Bool, ∀ i3 : Int, ∀ base : Int, ∀ maxMantDigits : Int, ∀ expChar : Int, ∀ hv5, Jv3 [.bool hex, .int .i64 i3, .int .u64 base, .int .i64 maxMantDigits, .int .u8 expChar] hv5 →
     ∃ Jv4 : List Value → Heap → Prop,
     ( ∃ (Iv : List Value → Heap → Prop) (m : List Value → Heap → Nat), Iv [.int .u64 0, .bool false, .int .i64 i3, .bool false, .bool false, .bool false, .int .i64 0, .int .i64 0, .int .i64 0] hv5 ∧
     ∀ mantissa : Int, ∀ trunc : Bool, ∀ i4 : Int, ∀ underscores : Bool, ∀ sawdot : Bool, ∀ sawdigits : Bool, ∀ nd : Int, ∀ ndMant : Int, ∀ dp : Int, ∀ hv6, Iv [.int .u64 mantissa, .bool trunc, .int .i64 i4, .bool underscores, .bool sawdot, .bool sawdigits, .int .i64 nd, .int .i64 ndMant, .int .i64 dp] hv6 →
     cnd (decide (i4 < ((s.size : Nat) : Int)))
      (∃ Jv5 : List Value → Heap → Prop,
      ( 0 ≤ i4 ∧ i4 < ((s.size : Nat) : Int) ∧ ∃ xc4 : UInt8, s[Int.toNat i4]? = some xc4 ∧ cnd (true == (((UInt8.toNat xc4 : Nat) : Int) == (95 : Int)))
        (Jv5 [.int .u64 mantissa, .bool trunc, .bool true, .bool sawdot, .bool sawdigits, .int .i64 nd, .int .i64 ndMant, .int .i64 dp] hv6)
        (cnd (true == (((UInt8.toNat xc4 : Nat) : Int) == (46 : Int)))
         (cnd sawdot
          (Jv4 [.int .u64 mantissa, .bool trunc, .int .i64 i4, .bool underscores, .bool sawdot, .bool sawdigits, .int .i64 nd, .int .i64 ndMant, .int .i64 dp] hv6)
          (Jv5 [.int .u64 mantissa, .bool trunc, .bool underscores, .bool true, .bool sawdigits, .int .i64 nd, .int .i64 ndMant, .int .i64 nd] hv6))
         (let K2 := fun (x : Bool) (hv7 : Heap) =>
          (cnd x
           (let K3 := fun (hv8 : Heap) =>
            (∃ Jv6 : List Value → Heap → Prop,
            ( cnd (decide (ndMant < maxMantDigits))
             (Jv6 [.int .u64 (IntKind.u64.wrap ((IntKind.u64.wrap (mantissa * base)) + (IntKind.u64.wrap (IntKind.u8.wrap (((UInt8.toNat xc4 : Nat) : Int) - (48 : Int)))))), .bool trunc, .int .i64 (IntKind.i64.wrap (ndMant + (1 : Int)))] hv8)
             (∃ Jv7 : List Value → Heap → Prop,
             ( cnd (((UInt8.toNat xc4 : Nat) : Int) != (48 : Int))
               (Jv7 [.bool true] hv8)
               (Jv7 [.bool trunc] hv8)) ∧
             ∀ trunc2 : Bool, ∀ hv9, Jv7 [.bool trunc2] hv9 →
             Jv6 [.int .u64 mantissa, .bool trunc2, .int .i64 ndMant] hv9)) ∧
            ∀ mantissa2 : Int, ∀ trunc3 : Bool, ∀ ndMant2 : Int, ∀ hv10, Jv6 [.int .u64 mantissa2, .bool trunc3, .int .i64 ndMant2] hv10 →
            Jv5 [.int .u64 mantissa2, .bool trunc3, .bool underscores, .bool sawdot, .bool true, .int .i64 (IntKind.i64.wrap (nd + (1 : Int))), .int .i64 ndMant2, .int .i64 dp] hv10)
           cnd (((UInt8.toNat xc4 : Nat) : Int) == (48 : Int))
            (cnd (nd == (0 : Int))
             (Jv5 [.int .u64 mantissa, .bool trunc, .bool underscores, .bool sawdot, .bool true, .int .i64 nd, .int .i64 ndMant, .int .i64 (IntKind.i64.wrap (dp - (1 : Int)))] hv7)
             (K3 hv7))
            (K3 hv7))
           (let K4 := fun (x2 : Bool) (hv13 : Heap) =>
            (cnd x2
             (∃ Jv8 : List Value → Heap → Prop,
             ( cnd (decide (ndMant < maxMantDigits))
              (callX Tryz.prog 94 #[.int .u8 ((UInt8.toNat xc4 : Nat) : Int)] hv13 [] fun v4 hv14 =>
              ∃ r4 : Int, v4 = .int .u8 r4 ∧
              Jv8 [.int .u64 (IntKind.u64.wrap ((IntKind.u64.wrap (mantissa * (16 : Int))) + (IntKind.u64.wrap (IntKind.u8.wrap ((IntKind.u8.wrap (r4 - (97 : Int))) + (10 : Int)))))), .bool trunc, .int .i64 (IntKind.i64.wrap (ndMant + (1 : Int)))] hv14)
              (Jv8 [.int .u64 mantissa, .bool true, .int .i64 ndMant] hv13)) ∧
             ∀ mantissa3 : Int, ∀ trunc4 : Bool, ∀ ndMant3 : Int, ∀ hv15, Jv8 [.int .u64 mantissa3, .bool trunc4, .int .i64 ndMant3] hv15 →
             Jv5 [.int .u64 mantissa3, .bool trunc4, .bool underscores, .bool sawdot, .bool true, .int .i64 (IntKind.i64.wrap (nd + (1 : Int))), .int .i64 ndMant3, .int .i64 dp] hv15)
             (Jv4 [.int .u64 mantissa, .bool trunc, .int .i64 i4, .bool underscores, .bool sawdot, .bool sawdigits, .int .i64 nd, .int .i64 ndMant, .int .i64 dp] hv13))
           cnd (base == (16 : Int))
            (callX Tryz.prog 94 #[.int .u8 ((UInt8.toNat xc4 : Nat) : Int)] hv7 [] fun v2 hv11 =>
            ∃ r2 : Int, v2 = .int .u8 r2 ∧
            cnd (decide ((97 : Int) ≤ r2))
             (callX Tryz.prog 94 #[.int .u8 ((UInt8.toNat xc4 : Nat) : Int)] hv11 [] fun v3 hv12 =>
             ∃ r3 : Int, v3 = .int .u8 r3 ∧
             K4 (true == (decide (r3 ≤ (102 : Int)))) hv12)
             (K4 (true == false) hv11))
            (K4 (true == false) hv7)))
         cnd (decide ((48 : Int) ≤ ((UInt8.toNat xc4 : Nat) : Int)))
          (K2 (true == (decide (((UInt8.toNat xc4 : Nat) : Int) ≤ (57 : Int)))) hv6)
          (K2 (true == false) hv6)))) ∧
      ∀ mantissa4 : Int, ∀ trunc5 : Bool, ∀ underscores2 : Bool, ∀ sawdot2 : Bool, ∀ sawdigits2 : Bool, ∀ nd2 : Int, ∀ ndMant4 : Int, ∀ dp2 : Int, ∀ hv16, Jv5 [.int .u64 mantissa4, .bool trunc5, .bool underscores2, .bool sawdot2, .bool sawdigits2, .int .i64 nd2, .int .i64 ndMant4, .int .i64 dp2] hv16 →
      Iv [.int .u64 mantissa4, .bool trunc5, .int .i64 (IntKind.i64.wrap (i4 + (1 : Int))), .bool underscores2, .bool sawdot2, .bool sawdigits2, .int .i64 nd2, .int .i64 ndMant4, .int .i64 dp2] hv16 ∧ m [.int .u64 mantissa4, .bool trunc5, .int .i64 (IntKind.i64.wrap (i4 + (1 : Int))), .bool underscores2, .bool sawdot2, .bool sawdigits2, .int .i64 nd2, .int .i64 ndMant4, .int .i64 dp2] hv16 < m [.int .u64 mantissa, .bool trunc, .int .i64 i4, .bool underscores, .bool sawdot, .bool sawdigits, .int .i64 nd, .int .i64 ndMant, .int .i64 dp] hv6)
      (Jv4 [.int .u64 mantissa, .bool trunc, .int .i64 i4, .bool underscores, .bool sawdot, .bool sawdigits, .int .i64 nd, .int .i64 ndMant, .int .i64 dp] hv6)) ∧
     ∀ mantissa5 : Int, ∀ trunc6 : Bool, ∀ i5 : Int, ∀ underscores3 : Bool, ∀ sawdot3 : Bool, ∀ sawdigits3 : Bool, ∀ nd3 : Int, ∀ ndMant5 : Int, ∀ dp3 : Int, ∀ hv17, Jv4 [.int .u64 mantissa5, .bool trunc6, .int .i64 i5, .bool underscores3, .bool sawdot3, .bool sawdigits3, .int .i64 nd3, .int .i64 ndMant5, .int .i64 dp3] hv17 →
     cnd (!sawdigits3)
      (R (.tuple #[.int .u64 mantissa5, .int .i64 0, .bool neg2, .bool trunc6, .bool hex, .int .i64 i5, .bool false]) hv17)
      (∃ Jv9 : List Value → Heap → Prop,
      ( cnd (!sawdot3)
       (Jv9 [.int .i64 nd3] hv17)
       (Jv9 [.int .i64 dp3] hv17)) ∧
      ∀ dp4 : Int, ∀ hv18, Jv9 [.int .i64 dp4] hv18 →
      ∃ Jv10 : List Value → Heap → Prop,
      ( cnd (base == (16 : Int))
       (Jv10 [.int .i64 (IntKind.i64.wrap (ndMant5 * (4 : Int))), .int .i64 (IntKind.i64.wrap (dp4 * (4 : Int)))] hv18)
       (Jv10 [.int .i64 ndMant5, .int .i64 dp4] hv18)) ∧
      ∀ ndMant6 : Int, ∀ dp5 : Int, ∀ hv19, Jv10 [.int .i64 ndMant6, .int .i64 dp5] hv19 →
      let K9 := fun (i11 : Int) (underscores8 : Bool) (dp7 : Int) (hv31 : Heap) =>
       (∃ Jv16 : List Value → Heap → Prop,
       ( cnd (mantissa5 != (0 : Int))
        (Jv16 [.int .i64 (IntKind.i64.wrap (dp7 - ndMant6))] hv31)
        (Jv16 [.int .i64 0] hv31)) ∧
       ∀ exp : Int, ∀ hv32, Jv16 [.int .i64 exp] hv32 →
       let K10 := fun (hv34 : Heap) =>
        (R (.tuple #[.int .u64 mantissa5, .int .i64 exp, .bool neg2, .bool trunc6, .bool hex, .int .i64 i11, .bool true]) hv34)
       cnd underscores8
        (0 ≤ i11 ∧ i11 ≤ ((s.size : Nat) : Int) ∧ callX Tryz.prog 117 #[.string (s.extract 0 (Int.toNat i11))] hv32 [] fun v6 hv33 =>
        ∃ r6 : Bool, v6 = .bool r6 ∧
        cnd (!r6)
         (R (.tuple #[.int .u64 mantissa5, .int .i64 exp, .bool neg2, .bool trunc6, .bool hex, .int .i64 i11, .bool false]) hv33)
         (K10 hv33))
        (K10 hv32))
      cnd (decide (i5 < ((s.size : Nat) : Int)))
       (0 ≤ i5 ∧ i5 < ((s.size : Nat) : Int) ∧ ∃ xc5 : UInt8, s[Int.toNat i5]? = some xc5 ∧ callX Tryz.prog 94 #[.int .u8 ((UInt8.toNat xc5 : Nat) : Int)] hv19 [] fun v5 hv20 =>
       ∃ r5 : Int, v5 = .int .u8 r5 ∧
       ∃ Jv11 : List Value → Heap → Prop,
       ( cnd (r5 == expChar)
        (cnd (decide ((IntKind.i64.wrap (i5 + (1 : Int))) ≥ ((s.size : Nat) : Int)))
         (R (.tuple #[.int .u64 mantissa5, .int .i64 0, .bool neg2, .bool trunc6, .bool hex, .int .i64 (IntKind.i64.wrap (i5 + (1 : Int))), .bool false]) hv20)
         (0 ≤ (IntKind.i64.wrap (i5 + (1 : Int))) ∧ (IntKind.i64.wrap (i5 + (1 : Int))) < ((s.size : Nat) : Int) ∧ ∃ xc6 : UInt8, s[Int.toNat (IntKind.i64.wrap (i5 + (1 : Int)))]? = some xc6 ∧ ∃ Jv12 : List Value → Heap → Prop,
         ( cnd (((UInt8.toNat xc6 : Nat) : Int) == (43 : Int))
           (Jv12 [.int .i64 (IntKind.i64.wrap ((IntKind.i64.wrap (i5 + (1 : Int))) + (1 : Int))), .int .i64 1] hv20)
           (∃ Jv13 : List Value → Heap → Prop,
           ( cnd (((UInt8.toNat xc6 : Nat) : Int) == (45 : Int))
            (Jv13 [.int .i64 (IntKind.i64.wrap ((IntKind.i64.wrap (i5 + (1 : Int))) + (1 : Int))), .int .i64 (-1)] hv20)
            (Jv13 [.int .i64 (IntKind.i64.wrap (i5 + (1 : Int))), .int .i64 1] hv20)) ∧
           ∀ i6 : Int, ∀ esign : Int, ∀ hv21, Jv13 [.int .i64 i6, .int .i64 esign] hv21 →
           Jv12 [.int .i64 i6, .int .i64 esign] hv21)) ∧
         ∀ i7 : Int, ∀ esign2 : Int, ∀ hv22, Jv12 [.int .i64 i7, .int .i64 esign2] hv22 →
         let K5 := fun (hv23 : Heap) =>
          (R (.tuple #[.int .u64 mantissa5, .int .i64 0, .bool neg2, .bool trunc6, .bool hex, .int .i64 i7, .bool false]) hv23)
         cnd (decide (i7 ≥ ((s.size : Nat) : Int)))
          (K5 hv22)
          (0 ≤ i7 ∧ i7 < ((s.size : Nat) : Int) ∧ ∃ xc7 : UInt8, s[Int.toNat i7]? = some xc7 ∧ cnd (decide (((UInt8.toNat xc7 : Nat) : Int) < (48 : Int)))
           (K5 hv22)
           (0 ≤ i7 ∧ i7 < ((s.size : Nat) : Int) ∧ ∃ xc8 : UInt8, s[Int.toNat i7]? = some xc8 ∧ cnd (decide (((UInt8.toNat xc8 : Nat) : Int) > (57 : Int)))
            (R (.tuple #[.int .u64 mantissa5, .int .i64 0, .bool neg2, .bool trunc6, .bool hex, .int .i64 i7, .bool false]) hv22)
            (let K8 := fun (i9 : Int) (underscores6 : Bool) (ev4 : Int) (hv29 : Heap) =>
             (Jv11 [.int .i64 i9, .bool underscores6, .int .i64 (IntKind.i64.wrap (dp5 + (IntKind.i64.wrap (ev4 * esign2))))] hv29)
            ∃ (Iv2 : List Value → Heap → Prop) (m2 : List Value → Heap → Nat), Iv2 [.int .i64 i7, .bool underscores3, .int .i64 0] hv22 ∧
            ∀ i8 : Int, ∀ underscores4 : Bool, ∀ ev : Int, ∀ hv24, Iv2 [.int .i64 i8, .bool underscores4, .int .i64 ev] hv24 →
            let K7 := fun (hv26 : Heap) =>
             (∃ Jv14 : List Value → Heap → Prop,
             ( 0 ≤ i8 ∧ i8 < ((s.size : Nat) : Int) ∧ ∃ xc13 : UInt8, s[Int.toNat i8]? = some xc13 ∧ cnd (((UInt8.toNat xc13 : Nat) : Int) == (95 : Int))
               (Jv14 [.bool true, .int .i64 ev] hv26)
               (∃ Jv15 : List Value → Heap → Prop,
               ( cnd (decide (ev < (10000 : Int)))
                (0 ≤ i8 ∧ i8 < ((s.size : Nat) : Int) ∧ ∃ xc14 : UInt8, s[Int.toNat i8]? = some xc14 ∧ Jv15 [.int .i64 (IntKind.i64.wrap ((IntKind.i64.wrap ((IntKind.i64.wrap (ev * (10 : Int))) + (IntKind.i64.wrap ((UInt8.toNat xc14 : Nat) : Int)))) - (48 : Int)))] hv26)
                (Jv15 [.int .i64 ev] hv26)) ∧
               ∀ ev2 : Int, ∀ hv27, Jv15 [.int .i64 ev2] hv27 →
               Jv14 [.bool underscores4, .int .i64 ev2] hv27)) ∧
             ∀ underscores5 : Bool, ∀ ev3 : Int, ∀ hv28, Jv14 [.bool underscores5, .int .i64 ev3] hv28 →
             Iv2 [.int .i64 (IntKind.i64.wrap (i8 + (1 : Int))), .bool underscores5, .int .i64 ev3] hv28 ∧ m2 [.int .i64 (IntKind.i64.wrap (i8 + (1 : Int))), .bool underscores5, .int .i64 ev3] hv28 < m2 [.int .i64 i8, .bool underscores4, .int .i64 ev] hv24)
            let K6 := fun (x3 : Bool) (hv25 : Heap) =>
             (cnd x3
              (K7 hv25)
              (K8 i8 underscores4 ev hv25))
            cnd (decide (i8 < ((s.size : Nat) : Int)))
             (0 ≤ i8 ∧ i8 < ((s.size : Nat) : Int) ∧ ∃ xc9 : UInt8, s[Int.toNat i8]? = some xc9 ∧ cnd (decide ((48 : Int) ≤ ((UInt8.toNat xc9 : Nat) : Int)))
              (0 ≤ i8 ∧ i8 < ((s.size : Nat) : Int) ∧ ∃ xc10 : UInt8, s[Int.toNat i8]? = some xc10 ∧ cnd (decide (((UInt8.toNat xc10 : Nat) : Int) ≤ (57 : Int)))
               (K7 hv24)
               (0 ≤ i8 ∧ i8 < ((s.size : Nat) : Int) ∧ ∃ xc11 : UInt8, s[Int.toNat i8]? = some xc11 ∧ K6 (((UInt8.toNat xc11 : Nat) : Int) == (95 : Int)) hv24))
              (0 ≤ i8 ∧ i8 < ((s.size : Nat) : Int) ∧ ∃ xc12 : UInt8, s[Int.toNat i8]? = some xc12 ∧ K6 (((UInt8.toNat xc12 : Nat) : Int) == (95 : Int)) hv24))
             (K8 i8 underscores4 ev hv24))))))
        (cnd (base == (16 : Int))
         (R (.tuple #[.int .u64 mantissa5, .int .i64 0, .bool neg2, .bool trunc6, .bool hex, .int .i64 i5, .bool false]) hv20)
         (Jv11 [.int .i64 i5, .bool underscores3, .int .i64 dp5] hv20))) ∧
       ∀ i10 : Int, ∀ underscores7 : Bool, ∀ dp6 : Int, ∀ hv30, Jv11 [.int .i64 i10, .bool underscores7, .int .i64 dp6] hv30 →
       K9 i10 underscores7 dp6 hv30)
       (cnd (base == (16 : Int))
        (R (.tuple #[.int .u64 mantissa5, .int .i64 0, .bool neg2, .bool trunc6, .bool hex, .int .i64 i5, .bool false]) hv19)
        (K9 i5 underscores3 dp5 hv19))))
     (K hv2))
    (K hv2))
theorem calls79 {h : Heap} {R : Value → Heap → Prop} (s : ByteArray) (H : S79 s h R) : CallsH Tryz.prog 79 #[.string s] h R := by
  have e : S79 s h R = FX (envX [] 253) { loops := [(1, ⟨[0, 3, 4, 6, 8, 10, 11, 12], [2, 5, 7, 9, 13, 14, 15, 16, 17], [], []⟩), (5, ⟨[0, 2, 3, 4, 5, 6, 8, 16, 17, 19], [7, 9, 20], [], []⟩)], joins := [(28, ⟨[0, 2, 3, 5, 6, 8, 9], [4, 7], [], []⟩), (32, ⟨[0, 2, 3, 5, 6, 8, 9], [4, 7], [], []⟩), (54, ⟨[0, 2, 3, 4, 5, 8, 9], [6, 7, 10, 11, 12], [], []⟩), (96, ⟨[0, 3, 4, 6, 7, 8, 9, 10, 11, 12, 13, 14, 15, 17], [2, 5, 16], [], []⟩), (108, ⟨[0, 2, 3, 4, 6, 7, 8, 9, 10, 11, 12, 13, 14, 15, 16, 17], [5], [], []⟩), (127, ⟨[0, 3, 4, 6, 7, 8, 9, 10, 11, 12, 13, 14, 15, 17], [2, 5, 16], [], []⟩), (142, ⟨[0, 2, 3, 4, 5, 6, 7, 8, 9, 10, 12, 16], [17], [], []⟩), (145, ⟨[0, 2, 3, 4, 5, 6, 7, 8, 9, 10, 12], [16, 17], [], []⟩), (161, ⟨[0, 2, 3, 4, 5, 6, 8, 16], [7, 9, 17], [], []⟩), (171, ⟨[0, 2, 3, 4, 5, 6, 8, 9, 16, 17], [7, 19], [], []⟩), (175, ⟨[0, 2, 3, 4, 5, 6, 8, 9, 16, 17], [7, 19], [], []⟩), (224, ⟨[0, 2, 3, 4, 5, 6, 7, 8, 9, 16, 17, 19], [20], [], []⟩), (241, ⟨[0, 2, 4, 5, 6, 7, 8, 9], [3], [], []⟩)], blocks := [(1, ⟨[0, 3, 4, 6, 8, 10, 12], [2, 5, 7, 9, 13, 14, 15, 16, 17], [], []⟩), (2, ⟨[0, 3, 4, 6, 7, 8, 10, 11, 12], [2, 5, 9, 13, 14, 15, 16, 17], [], []⟩), (6, ⟨[0, 2, 3, 4, 5, 6, 7, 8, 16, 17, 19], [9, 20], [], []⟩)], draws := [] } Tryz.f79 (Tryz.f79.body.getD .skip) [.string s] h R := by kernel_rfl
  exact calls_of_FX (envX_ok _ _) Tryz.func79 (by kernel_rfl) (by kernel_rfl) (by kernel_rfl) (e ▸ H)
/-- internal/strconv.readFloat -/
def Ok79 (s : ByteArray) (R : Int → Int → Bool → Bool → Bool → Int → Bool → Prop) : Prop :=
  ∀ (h : Heap), Hp h [] → CallsH Tryz.prog 79 #[.string s] h fun v h' => ∃ (raV : Int) (rbV : Int) (rcV : Bool) (rdV : Bool) (reV : Bool) (rfV : Int) (rgV : Bool), Sy h [] h' [] ∧ v = .tuple #[.int .u64 raV, .int .i64 rbV, .bool rcV, .bool rdV, .bool reV, .int .i64 rfV, .bool rgV] ∧ R raV rbV rcV rdV reV rfV rgV
theorem Ok79.mono {s} {R R' : Int → Int → Bool → Bool → Bool → Int → Bool → Prop} (H : Ok79 s R) (kz : ∀ raV rbV rcV rdV reV rfV rgV, R raV rbV rcV rdV reV rfV rgV → R' raV rbV rcV rdV reV rfV rgV) : Ok79 s R' :=
  fun h  hp => (H h  hp).mono fun _ _ ⟨raV, rbV, rcV, rdV, reV, rfV, rgV, P, e, q⟩ => ⟨raV, rbV, rcV, rdV, reV, rfV, rgV, P, e, kz _ _ _ _ _ _ _ q⟩
def T79 (s : ByteArray) (R : Int → Int → Bool → Bool → Bool → Int → Bool → Prop) : Prop :=
  cnd (decide ((0 : Int) ≥ ((s.size : Nat) : Int)))
   (R 0 0 false false false 0 false)
   (0 ≤ (0 : Int) ∧ (0 : Int) < ((s.size : Nat) : Int) ∧ ∃ xc : UInt8, s[Int.toNat (0 : Int)]? = some xc ∧ ∃ Jv : Bool → Int → Prop,
   ( cnd (((UInt8.toNat xc : Nat) : Int) == (43 : Int))
    (Jv false (IntKind.i64.wrap ((0 : Int) + (1 : Int))))
    (∃ Jv2 : Bool → Int → Prop,
    ( cnd (((UInt8.toNat xc : Nat) : Int) == (45 : Int))
      (Jv2 true (IntKind.i64.wrap ((0 : Int) + (1 : Int))))
      (Jv2 false 0)) ∧
    ∀ neg : Bool, ∀ i : Int, Jv2 neg i →
    Jv neg i)) ∧
   ∀ neg2 : Bool, ∀ i2 : Int, Jv neg2 i2 →
   ∃ Jv_2 : Prop,
   ( cnd (decide ((IntKind.i64.wrap (i2 + (2 : Int))) < ((s.size : Nat) : Int)))
    (0 ≤ i2 ∧ i2 < ((s.size : Nat) : Int) ∧ ∃ xc2 : UInt8, s[Int.toNat i2]? = some xc2 ∧ cnd (((UInt8.toNat xc2 : Nat) : Int) == (48 : Int))
     (0 ≤ (IntKind.i64.wrap (i2 + (1 : Int))) ∧ (IntKind.i64.wrap (i2 + (1 : Int))) < ((s.size : Nat) : Int) ∧ ∃ xc3 : UInt8, s[Int.toNat (IntKind.i64.wrap (i2 + (1 : Int)))]? = some xc3 ∧ Ok94 ((UInt8.toNat xc3 : Nat) : Int) (fun r =>
     ∃ Jv3 : Bool → Int → Int → Int → Int → Prop,
     ( cnd (r == (120 : Int))
       (Jv3 true (IntKind.i64.wrap (i2 + (2 : Int))) 16 16 112)
       (Jv3 false i2 10 19 101)) ∧
     ∀ hex : Bool, ∀ i3 : Int, ∀ base : Int, ∀ maxMantDigits : Int, ∀ expChar : Int, Jv3 hex i3 base maxMantDigits expChar →
     ∃ Jv4 : Int → Bool → Int → Bool → Bool → Bool → Int → Int → Int → Prop,
     ( ∃ (Iv : Int → Bool → Int → Bool → Bool → Bool → Int → Int → Int → Prop) (m : Int → Bool → Int → Bool → Bool → Bool → Int → Int → Int → Nat), Iv 0 false i3 false false false 0 0 0 ∧
      ∀ mantissa : Int, ∀ trunc : Bool, ∀ i4 : Int, ∀ underscores : Bool, ∀ sawdot : Bool, ∀ sawdigits : Bool, ∀ nd : Int, ∀ ndMant : Int, ∀ dp : Int, Iv mantissa trunc i4 underscores sawdot sawdigits nd ndMant dp →
      cnd (decide (i4 < ((s.size : Nat) : Int)))
       (∃ Jv5 : Int → Bool → Bool → Bool → Bool → Int → Int → Int → Prop,
       ( 0 ≤ i4 ∧ i4 < ((s.size : Nat) : Int) ∧ ∃ xc4 : UInt8, s[Int.toNat i4]? = some xc4 ∧ cnd (true == (((UInt8.toNat xc4 : Nat) : Int) == (95 : Int)))
        (Jv5 mantissa trunc true sawdot sawdigits nd ndMant dp)
        (cnd (true == (((UInt8.toNat xc4 : Nat) : Int) == (46 : Int)))
         (cnd sawdot
          (Jv4 mantissa trunc i4 underscores sawdot sawdigits nd ndMant dp)
          (Jv5 mantissa trunc underscores true sawdigits nd ndMant nd))
         (∃ Jv_12 : Bool → Prop,
         ( cnd (decide ((48 : Int) ≤ ((UInt8.toNat xc4 : Nat) : Int)))
           (Jv_12 (true == (decide (((UInt8.toNat xc4 : Nat) : Int) ≤ (57 : Int)))))
           (Jv_12 (true == false))) ∧
         ∀ x : Bool, Jv_12 x →
         cnd x
          (∃ Jv_13 : Prop,
          ( cnd (((UInt8.toNat xc4 : Nat) : Int) == (48 : Int))
            (cnd (nd == (0 : Int))
             (Jv5 mantissa trunc underscores sawdot true nd ndMant (IntKind.i64.wrap (dp - (1 : Int))))
             (Jv_13))
            (Jv_13)) ∧
          (Jv_13 →
          ∃ Jv6 : Int → Bool → Int → Prop,
          ( cnd (decide (ndMant < maxMantDigits))
            (Jv6 (IntKind.u64.wrap ((IntKind.u64.wrap (mantissa * base)) + (IntKind.u64.wrap (IntKind.u8.wrap (((UInt8.toNat xc4 : Nat) : Int) - (48 : Int)))))) trunc (IntKind.i64.wrap (ndMant + (1 : Int))))
            (∃ Jv7 : Bool → Prop,
            ( cnd (((UInt8.toNat xc4 : Nat) : Int) != (48 : Int))
             (Jv7 true)
             (Jv7 trunc)) ∧
            ∀ trunc2 : Bool, Jv7 trunc2 →
            Jv6 mantissa trunc2 ndMant)) ∧
          ∀ mantissa2 : Int, ∀ trunc3 : Bool, ∀ ndMant2 : Int, Jv6 mantissa2 trunc3 ndMant2 →
          Jv5 mantissa2 trunc3 underscores sawdot true (IntKind.i64.wrap (nd + (1 : Int))) ndMant2 dp))
          (∃ Jv_14 : Bool → Prop,
          ( cnd (base == (16 : Int))
            (Ok94 ((UInt8.toNat xc4 : Nat) : Int) (fun r2 =>
            cnd (decide ((97 : Int) ≤ r2))
             (Ok94 ((UInt8.toNat xc4 : Nat) : Int) (fun r3 =>
             Jv_14 (true == (decide (r3 ≤ (102 : Int))))))
             (Jv_14 (true == false))))
            (Jv_14 (true == false))) ∧
          ∀ x2 : Bool, Jv_14 x2 →
          cnd x2
           (∃ Jv8 : Int → Bool → Int → Prop,
           ( cnd (decide (ndMant < maxMantDigits))
             (Ok94 ((UInt8.toNat xc4 : Nat) : Int) (fun r4 =>
             Jv8 (IntKind.u64.wrap ((IntKind.u64.wrap (mantissa * (16 : Int))) + (IntKind.u64.wrap (IntKind.u8.wrap ((IntKind.u8.wrap (r4 - (97 : Int))) + (10 : Int)))))) trunc (IntKind.i64.wrap (ndMant + (1 : Int)))))
             (Jv8 mantissa true ndMant)) ∧
           ∀ mantissa3 : Int, ∀ trunc4 : Bool, ∀ ndMant3 : Int, Jv8 mantissa3 trunc4 ndMant3 →
           Jv5 mantissa3 trunc4 underscores sawdot true (IntKind.i64.wrap (nd + (1 : Int))) ndMant3 dp)
           (Jv4 mantissa trunc i4 underscores sawdot sawdigits nd ndMant dp))))) ∧
       ∀ mantissa4 : Int, ∀ trunc5 : Bool, ∀ underscores2 : Bool, ∀ sawdot2 : Bool, ∀ sawdigits2 : Bool, ∀ nd2 : Int, ∀ ndMant4 : Int, ∀ dp2 : Int, Jv5 mantissa4 trunc5 underscores2 sawdot2 sawdigits2 nd2 ndMant4 dp2 →
       Iv mantissa4 trunc5 (IntKind.i64.wrap (i4 + (1 : Int))) underscores2 sawdot2 sawdigits2 nd2 ndMant4 dp2 ∧ m mantissa4 trunc5 (IntKind.i64.wrap (i4 + (1 : Int))) underscores2 sawdot2 sawdigits2 nd2 ndMant4 dp2 < m mantissa trunc i4 underscores sawdot sawdigits nd ndMant dp)
       (Jv4 mantissa trunc i4 underscores sawdot sawdigits nd ndMant dp)) ∧
     ∀ mantissa5 : Int, ∀ trunc6 : Bool, ∀ i5 : Int, ∀ underscores3 : Bool, ∀ sawdot3 : Bool, ∀ sawdigits3 : Bool, ∀ nd3 : Int, ∀ ndMant5 : Int, ∀ dp3 : Int, Jv4 mantissa5 trunc6 i5 underscores3 sawdot3 sawdigits3 nd3 ndMant5 dp3 →
     cnd (!sawdigits3)
      (R mantissa5 0 neg2 trunc6 hex i5 false)
      (∃ Jv9 : Int → Prop,
      ( cnd (!sawdot3)
        (Jv9 nd3)
        (Jv9 dp3)) ∧
      ∀ dp4 : Int, Jv9 dp4 →
      ∃ Jv10 : Int → Int → Prop,
      ( cnd (base == (16 : Int))
        (Jv10 (IntKind.i64.wrap (ndMant5 * (4 : Int))) (IntKind.i64.wrap (dp4 * (4 : Int))))
        (Jv10 ndMant5 dp4)) ∧
      ∀ ndMant6 : Int, ∀ dp5 : Int, Jv10 ndMant6 dp5 →
      ∃ Jv_15 : Int → Bool → Int → Prop,
      ( cnd (decide (i5 < ((s.size : Nat) : Int)))
        (0 ≤ i5 ∧ i5 < ((s.size : Nat) : Int) ∧ ∃ xc5 : UInt8, s[Int.toNat i5]? = some xc5 ∧ Ok94 ((UInt8.toNat xc5 : Nat) : Int) (fun r5 =>
        ∃ Jv11 : Int → Bool → Int → Prop,
        ( cnd (r5 == expChar)
         (cnd (decide ((IntKind.i64.wrap (i5 + (1 : Int))) ≥ ((s.size : Nat) : Int)))
          (R mantissa5 0 neg2 trunc6 hex (IntKind.i64.wrap (i5 + (1 : Int))) false)
          (0 ≤ (IntKind.i64.wrap (i5 + (1 : Int))) ∧ (IntKind.i64.wrap (i5 + (1 : Int))) < ((s.size : Nat) : Int) ∧ ∃ xc6 : UInt8, s[Int.toNat (IntKind.i64.wrap (i5 + (1 : Int)))]? = some xc6 ∧ ∃ Jv12 : Int → Int → Prop,
          ( cnd (((UInt8.toNat xc6 : Nat) : Int) == (43 : Int))
            (Jv12 (IntKind.i64.wrap ((IntKind.i64.wrap (i5 + (1 : Int))) + (1 : Int))) 1)
            (∃ Jv13 : Int → Int → Prop,
            ( cnd (((UInt8.toNat xc6 : Nat) : Int) == (45 : Int))
             (Jv13 (IntKind.i64.wrap ((IntKind.i64.wrap (i5 + (1 : Int))) + (1 : Int))) (-1))
             (Jv13 (IntKind.i64.wrap (i5 + (1 : Int))) 1)) ∧
            ∀ i6 : Int, ∀ esign : Int, Jv13 i6 esign →
            Jv12 i6 esign)) ∧
          ∀ i7 : Int, ∀ esign2 : Int, Jv12 i7 esign2 →
          ∃ Jv_17 : Prop,
          ( cnd (decide (i7 ≥ ((s.size : Nat) : Int)))
            (Jv_17)
            (0 ≤ i7 ∧ i7 < ((s.size : Nat) : Int) ∧ ∃ xc7 : UInt8, s[Int.toNat i7]? = some xc7 ∧ cnd (decide (((UInt8.toNat xc7 : Nat) : Int) < (48 : Int)))
             (Jv_17)
             (0 ≤ i7 ∧ i7 < ((s.size : Nat) : Int) ∧ ∃ xc8 : UInt8, s[Int.toNat i7]? = some xc8 ∧ cnd (decide (((UInt8.toNat xc8 : Nat) : Int) > (57 : Int)))
              (R mantissa5 0 neg2 trunc6 hex i7 false)
              (∃ Jv_18 : Int → Bool → Int → Prop,
              ( ∃ (Iv2 : Int → Bool → Int → Prop) (m2 : Int → Bool → Int → Nat), Iv2 i7 underscores3 0 ∧
              ∀ i8 : Int, ∀ underscores4 : Bool, ∀ ev : Int, Iv2 i8 underscores4 ev →
              ∃ Jv_19 : Prop,
              ( ∃ Jv_20 : Bool → Prop,
               ( cnd (decide (i8 < ((s.size : Nat) : Int)))
                (0 ≤ i8 ∧ i8 < ((s.size : Nat) : Int) ∧ ∃ xc9 : UInt8, s[Int.toNat i8]? = some xc9 ∧ cnd (decide ((48 : Int) ≤ ((UInt8.toNat xc9 : Nat) : Int)))
                 (0 ≤ i8 ∧ i8 < ((s.size : Nat) : Int) ∧ ∃ xc10 : UInt8, s[Int.toNat i8]? = some xc10 ∧ cnd (decide (((UInt8.toNat xc10 : Nat) : Int) ≤ (57 : Int)))
                  (Jv_19)
                  (0 ≤ i8 ∧ i8 < ((s.size : Nat) : Int) ∧ ∃ xc11 : UInt8, s[Int.toNat i8]? = some xc11 ∧ Jv_20 (((UInt8.toNat xc11 : Nat) : Int) == (95 : Int))))
                 (0 ≤ i8 ∧ i8 < ((s.size : Nat) : Int) ∧ ∃ xc12 : UInt8, s[Int.toNat i8]? = some xc12 ∧ Jv_20 (((UInt8.toNat xc12 : Nat) : Int) == (95 : Int))))
                (Jv_18 i8 underscores4 ev)) ∧
               ∀ x3 : Bool, Jv_20 x3 →
               cnd x3
                (Jv_19)
                (Jv_18 i8 underscores4 ev)) ∧
              (Jv_19 →
              ∃ Jv14 : Bool → Int → Prop,
              ( 0 ≤ i8 ∧ i8 < ((s.size : Nat) : Int) ∧ ∃ xc13 : UInt8, s[Int.toNat i8]? = some xc13 ∧ cnd (((UInt8.toNat xc13 : Nat) : Int) == (95 : Int))
                (Jv14 true ev)
                (∃ Jv15 : Int → Prop,
                ( cnd (decide (ev < (10000 : Int)))
                 (0 ≤ i8 ∧ i8 < ((s.size : Nat) : Int) ∧ ∃ xc14 : UInt8, s[Int.toNat i8]? = some xc14 ∧ Jv15 (IntKind.i64.wrap ((IntKind.i64.wrap ((IntKind.i64.wrap (ev * (10 : Int))) + (IntKind.i64.wrap ((UInt8.toNat xc14 : Nat) : Int)))) - (48 : Int))))
                 (Jv15 ev)) ∧
                ∀ ev2 : Int, Jv15 ev2 →
                Jv14 underscores4 ev2)) ∧
              ∀ underscores5 : Bool, ∀ ev3 : Int, Jv14 underscores5 ev3 →
              Iv2 (IntKind.i64.wrap (i8 + (1 : Int))) underscores5 ev3 ∧ m2 (IntKind.i64.wrap (i8 + (1 : Int))) underscores5 ev3 < m2 i8 underscores4 ev)) ∧
              ∀ i9 : Int, ∀ underscores6 : Bool, ∀ ev4 : Int, Jv_18 i9 underscores6 ev4 →
              Jv11 i9 underscores6 (IntKind.i64.wrap (dp5 + (IntKind.i64.wrap (ev4 * esign2)))))))) ∧
          (Jv_17 →
          R mantissa5 0 neg2 trunc6 hex i7 false)))
         (cnd (base == (16 : Int))
          (R mantissa5 0 neg2 trunc6 hex i5 false)
          (Jv11 i5 underscores3 dp5))) ∧
        ∀ i10 : Int, ∀ underscores7 : Bool, ∀ dp6 : Int, Jv11 i10 underscores7 dp6 →
        Jv_15 i10 underscores7 dp6))
        (cnd (base == (16 : Int))
         (R mantissa5 0 neg2 trunc6 hex i5 false)
         (Jv_15 i5 underscores3 dp5))) ∧
      ∀ i11 : Int, ∀ underscores8 : Bool, ∀ dp7 : Int, Jv_15 i11 underscores8 dp7 →
      ∃ Jv16 : Int → Prop,
      ( cnd (mantissa5 != (0 : Int))
        (Jv16 (IntKind.i64.wrap (dp7 - ndMant6)))
        (Jv16 0)) ∧
      ∀ exp : Int, Jv16 exp →
      ∃ Jv_16 : Prop,
      ( cnd underscores8
        (0 ≤ i11 ∧ i11 ≤ ((s.size : Nat) : Int) ∧ Ok117 (s.extract 0 (Int.toNat i11)) (fun r6 =>
        cnd (!r6)
         (R mantissa5 exp neg2 trunc6 hex i11 false)
         (Jv_16)))
        (Jv_16)) ∧
      (Jv_16 →
      R mantissa5 exp neg2 trunc6 hex i11 true))))
     (Jv_2))
    (Jv_2)) ∧
   (Jv_2 →
   ∃ Jv17 : Int → Bool → Int → Bool → Bool → Bool → Int → Int → Int → Prop,
   ( ∃ (Iv3 : Int → Bool → Int → Bool → Bool → Bool → Int → Int → Int → Prop) (m3 : Int → Bool → Int → Bool → Bool → Bool → Int → Int → Int → Nat), Iv3 0 false i2 false false false 0 0 0 ∧
   ∀ mantissa6 : Int, ∀ trunc7 : Bool, ∀ i12 : Int, ∀ underscores9 : Bool, ∀ sawdot4 : Bool, ∀ sawdigits4 : Bool, ∀ nd4 : Int, ∀ ndMant7 : Int, ∀ dp8 : Int, Iv3 mantissa6 trunc7 i12 underscores9 sawdot4 sawdigits4 nd4 ndMant7 dp8 →
   cnd (decide (i12 < ((s.size : Nat) : Int)))
    (∃ Jv18 : Int → Bool → Bool → Bool → Bool → Int → Int → Int → Prop,
    ( 0 ≤ i12 ∧ i12 < ((s.size : Nat) : Int) ∧ ∃ xc15 : UInt8, s[Int.toNat i12]? = some xc15 ∧ cnd (true == (((UInt8.toNat xc15 : Nat) : Int) == (95 : Int)))
      (Jv18 mantissa6 trunc7 true sawdot4 sawdigits4 nd4 ndMant7 dp8)
      (cnd (true == (((UInt8.toNat xc15 : Nat) : Int) == (46 : Int)))
       (cnd sawdot4
        (Jv17 mantissa6 trunc7 i12 underscores9 sawdot4 sawdigits4 nd4 ndMant7 dp8)
        (Jv18 mantissa6 trunc7 underscores9 true sawdigits4 nd4 ndMant7 nd4))
       (∃ Jv_3 : Bool → Prop,
       ( cnd (decide ((48 : Int) ≤ ((UInt8.toNat xc15 : Nat) : Int)))
        (Jv_3 (true == (decide (((UInt8.toNat xc15 : Nat) : Int) ≤ (57 : Int)))))
        (Jv_3 (true == false))) ∧
       ∀ x4 : Bool, Jv_3 x4 →
       cnd x4
        (∃ Jv_4 : Prop,
        ( cnd (((UInt8.toNat xc15 : Nat) : Int) == (48 : Int))
         (cnd (nd4 == (0 : Int))
          (Jv18 mantissa6 trunc7 underscores9 sawdot4 true nd4 ndMant7 (IntKind.i64.wrap (dp8 - (1 : Int))))
          (Jv_4))
         (Jv_4)) ∧
        (Jv_4 →
        ∃ Jv19 : Int → Bool → Int → Prop,
        ( cnd (decide (ndMant7 < (19 : Int)))
         (Jv19 (IntKind.u64.wrap ((IntKind.u64.wrap (mantissa6 * (10 : Int))) + (IntKind.u64.wrap (IntKind.u8.wrap (((UInt8.toNat xc15 : Nat) : Int) - (48 : Int)))))) trunc7 (IntKind.i64.wrap (ndMant7 + (1 : Int))))
         (∃ Jv20 : Bool → Prop,
         ( cnd (((UInt8.toNat xc15 : Nat) : Int) != (48 : Int))
           (Jv20 true)
           (Jv20 trunc7)) ∧
         ∀ trunc8 : Bool, Jv20 trunc8 →
         Jv19 mantissa6 trunc8 ndMant7)) ∧
        ∀ mantissa7 : Int, ∀ trunc9 : Bool, ∀ ndMant8 : Int, Jv19 mantissa7 trunc9 ndMant8 →
        Jv18 mantissa7 trunc9 underscores9 sawdot4 true (IntKind.i64.wrap (nd4 + (1 : Int))) ndMant8 dp8))
        (∃ Jv_5 : Bool → Prop,
        ( cnd ((10 : Int) == (16 : Int))
         (Ok94 ((UInt8.toNat xc15 : Nat) : Int) (fun r7 =>
         cnd (decide ((97 : Int) ≤ r7))
          (Ok94 ((UInt8.toNat xc15 : Nat) : Int) (fun r8 =>
          Jv_5 (true == (decide (r8 ≤ (102 : Int))))))
          (Jv_5 (true == false))))
         (Jv_5 (true == false))) ∧
        ∀ x5 : Bool, Jv_5 x5 →
        cnd x5
         (∃ Jv21 : Int → Bool → Int → Prop,
         ( cnd (decide (ndMant7 < (19 : Int)))
          (Ok94 ((UInt8.toNat xc15 : Nat) : Int) (fun r9 =>
          Jv21 (IntKind.u64.wrap ((IntKind.u64.wrap (mantissa6 * (16 : Int))) + (IntKind.u64.wrap (IntKind.u8.wrap ((IntKind.u8.wrap (r9 - (97 : Int))) + (10 : Int)))))) trunc7 (IntKind.i64.wrap (ndMant7 + (1 : Int)))))
          (Jv21 mantissa6 true ndMant7)) ∧
         ∀ mantissa8 : Int, ∀ trunc10 : Bool, ∀ ndMant9 : Int, Jv21 mantissa8 trunc10 ndMant9 →
         Jv18 mantissa8 trunc10 underscores9 sawdot4 true (IntKind.i64.wrap (nd4 + (1 : Int))) ndMant9 dp8)
         (Jv17 mantissa6 trunc7 i12 underscores9 sawdot4 sawdigits4 nd4 ndMant7 dp8))))) ∧
    ∀ mantissa9 : Int, ∀ trunc11 : Bool, ∀ underscores10 : Bool, ∀ sawdot5 : Bool, ∀ sawdigits5 : Bool, ∀ nd5 : Int, ∀ ndMant10 : Int, ∀ dp9 : Int, Jv18 mantissa9 trunc11 underscores10 sawdot5 sawdigits5 nd5 ndMant10 dp9 →
    Iv3 mantissa9 trunc11 (IntKind.i64.wrap (i12 + (1 : Int))) underscores10 sawdot5 sawdigits5 nd5 ndMant10 dp9 ∧ m3 mantissa9 trunc11 (IntKind.i64.wrap (i12 + (1 : Int))) underscores10 sawdot5 sawdigits5 nd5 ndMant10 dp9 < m3 mantissa6 trunc7 i12 underscores9 sawdot4 sawdigits4 nd4 ndMant7 dp8)
    (Jv17 mantissa6 trunc7 i12 underscores9 sawdot4 sawdigits4 nd4 ndMant7 dp8)) ∧
   ∀ mantissa10 : Int, ∀ trunc12 : Bool, ∀ i13 : Int, ∀ underscores11 : Bool, ∀ sawdot6 : Bool, ∀ sawdigits6 : Bool, ∀ nd6 : Int, ∀ ndMant11 : Int, ∀ dp10 : Int, Jv17 mantissa10 trunc12 i13 underscores11 sawdot6 sawdigits6 nd6 ndMant11 dp10 →
   cnd (!sawdigits6)
    (R mantissa10 0 neg2 trunc12 false i13 false)
    (∃ Jv22 : Int → Prop,
    ( cnd (!sawdot6)
     (Jv22 nd6)
     (Jv22 dp10)) ∧
    ∀ dp11 : Int, Jv22 dp11 →
    ∃ Jv23 : Int → Int → Prop,
    ( cnd ((10 : Int) == (16 : Int))
     (Jv23 (IntKind.i64.wrap (ndMant11 * (4 : Int))) (IntKind.i64.wrap (dp11 * (4 : Int))))
     (Jv23 ndMant11 dp11)) ∧
    ∀ ndMant12 : Int, ∀ dp12 : Int, Jv23 ndMant12 dp12 →
    ∃ Jv_6 : Int → Bool → Int → Prop,
    ( cnd (decide (i13 < ((s.size : Nat) : Int)))
     (0 ≤ i13 ∧ i13 < ((s.size : Nat) : Int) ∧ ∃ xc16 : UInt8, s[Int.toNat i13]? = some xc16 ∧ Ok94 ((UInt8.toNat xc16 : Nat) : Int) (fun r10 =>
     ∃ Jv24 : Int → Bool → Int → Prop,
     ( cnd (r10 == (101 : Int))
       (cnd (decide ((IntKind.i64.wrap (i13 + (1 : Int))) ≥ ((s.size : Nat) : Int)))
        (R mantissa10 0 neg2 trunc12 false (IntKind.i64.wrap (i13 + (1 : Int))) false)
        (0 ≤ (IntKind.i64.wrap (i13 + (1 : Int))) ∧ (IntKind.i64.wrap (i13 + (1 : Int))) < ((s.size : Nat) : Int) ∧ ∃ xc17 : UInt8, s[Int.toNat (IntKind.i64.wrap (i13 + (1 : Int)))]? = some xc17 ∧ ∃ Jv25 : Int → Int → Prop,
        ( cnd (((UInt8.toNat xc17 : Nat) : Int) == (43 : Int))
         (Jv25 (IntKind.i64.wrap ((IntKind.i64.wrap (i13 + (1 : Int))) + (1 : Int))) 1)
         (∃ Jv26 : Int → Int → Prop,
         ( cnd (((UInt8.toNat xc17 : Nat) : Int) == (45 : Int))
           (Jv26 (IntKind.i64.wrap ((IntKind.i64.wrap (i13 + (1 : Int))) + (1 : Int))) (-1))
           (Jv26 (IntKind.i64.wrap (i13 + (1 : Int))) 1)) ∧
         ∀ i14 : Int, ∀ esign3 : Int, Jv26 i14 esign3 →
         Jv25 i14 esign3)) ∧
        ∀ i15 : Int, ∀ esign4 : Int, Jv25 i15 esign4 →
        ∃ Jv_8 : Prop,
        ( cnd (decide (i15 ≥ ((s.size : Nat) : Int)))
         (Jv_8)
         (0 ≤ i15 ∧ i15 < ((s.size : Nat) : Int) ∧ ∃ xc18 : UInt8, s[Int.toNat i15]? = some xc18 ∧ cnd (decide (((UInt8.toNat xc18 : Nat) : Int) < (48 : Int)))
          (Jv_8)
          (0 ≤ i15 ∧ i15 < ((s.size : Nat) : Int) ∧ ∃ xc19 : UInt8, s[Int.toNat i15]? = some xc19 ∧ cnd (decide (((UInt8.toNat xc19 : Nat) : Int) > (57 : Int)))
           (R mantissa10 0 neg2 trunc12 false i15 false)
           (∃ Jv_9 : Int → Bool → Int → Prop,
           ( ∃ (Iv4 : Int → Bool → Int → Prop) (m4 : Int → Bool → Int → Nat), Iv4 i15 underscores11 0 ∧
            ∀ i16 : Int, ∀ underscores12 : Bool, ∀ ev5 : Int, Iv4 i16 underscores12 ev5 →
            ∃ Jv_10 : Prop,
            ( ∃ Jv_11 : Bool → Prop,
            ( cnd (decide (i16 < ((s.size : Nat) : Int)))
              (0 ≤ i16 ∧ i16 < ((s.size : Nat) : Int) ∧ ∃ xc20 : UInt8, s[Int.toNat i16]? = some xc20 ∧ cnd (decide ((48 : Int) ≤ ((UInt8.toNat xc20 : Nat) : Int)))
               (0 ≤ i16 ∧ i16 < ((s.size : Nat) : Int) ∧ ∃ xc21 : UInt8, s[Int.toNat i16]? = some xc21 ∧ cnd (decide (((UInt8.toNat xc21 : Nat) : Int) ≤ (57 : Int)))
                (Jv_10)
                (0 ≤ i16 ∧ i16 < ((s.size : Nat) : Int) ∧ ∃ xc22 : UInt8, s[Int.toNat i16]? = some xc22 ∧ Jv_11 (((UInt8.toNat xc22 : Nat) : Int) == (95 : Int))))
               (0 ≤ i16 ∧ i16 < ((s.size : Nat) : Int) ∧ ∃ xc23 : UInt8, s[Int.toNat i16]? = some xc23 ∧ Jv_11 (((UInt8.toNat xc23 : Nat) : Int) == (95 : Int))))
              (Jv_9 i16 underscores12 ev5)) ∧
            ∀ x6 : Bool, Jv_11 x6 →
            cnd x6
             (Jv_10)
             (Jv_9 i16 underscores12 ev5)) ∧
            (Jv_10 →
            ∃ Jv27 : Bool → Int → Prop,
            ( 0 ≤ i16 ∧ i16 < ((s.size : Nat) : Int) ∧ ∃ xc24 : UInt8, s[Int.toNat i16]? = some xc24 ∧ cnd (((UInt8.toNat xc24 : Nat) : Int) == (95 : Int))
             (Jv27 true ev5)
             (∃ Jv28 : Int → Prop,
             ( cnd (decide (ev5 < (10000 : Int)))
               (0 ≤ i16 ∧ i16 < ((s.size : Nat) : Int) ∧ ∃ xc25 : UInt8, s[Int.toNat i16]? = some xc25 ∧ Jv28 (IntKind.i64.wrap ((IntKind.i64.wrap ((IntKind.i64.wrap (ev5 * (10 : Int))) + (IntKind.i64.wrap ((UInt8.toNat xc25 : Nat) : Int)))) - (48 : Int))))
               (Jv28 ev5)) ∧
             ∀ ev6 : Int, Jv28 ev6 →
             Jv27 underscores12 ev6)) ∧
            ∀ underscores13 : Bool, ∀ ev7 : Int, Jv27 underscores13 ev7 →
            Iv4 (IntKind.i64.wrap (i16 + (1 : Int))) underscores13 ev7 ∧ m4 (IntKind.i64.wrap (i16 + (1 : Int))) underscores13 ev7 < m4 i16 underscores12 ev5)) ∧
           ∀ i17 : Int, ∀ underscores14 : Bool, ∀ ev8 : Int, Jv_9 i17 underscores14 ev8 →
           Jv24 i17 underscores14 (IntKind.i64.wrap (dp12 + (IntKind.i64.wrap (ev8 * esign4)))))))) ∧
        (Jv_8 →
        R mantissa10 0 neg2 trunc12 false i15 false)))
       (cnd ((10 : Int) == (16 : Int))
        (R mantissa10 0 neg2 trunc12 false i13 false)
        (Jv24 i13 underscores11 dp12))) ∧
     ∀ i18 : Int, ∀ underscores15 : Bool, ∀ dp13 : Int, Jv24 i18 underscores15 dp13 →
     Jv_6 i18 underscores15 dp13))
     (cnd ((10 : Int) == (16 : Int))
      (R mantissa10 0 neg2 trunc12 false i13 false)
      (Jv_6 i13 underscores11 dp12))) ∧
    ∀ i19 : Int, ∀ underscores16 : Bool, ∀ dp14 : Int, Jv_6 i19 underscores16 dp14 →
    ∃ Jv29 : Int → Prop,
    ( cnd (mantissa10 != (0 : Int))
     (Jv29 (IntKind.i64.wrap (dp14 - ndMant12)))
     (Jv29 0)) ∧
    ∀ exp2 : Int, Jv29 exp2 →
    ∃ Jv_7 : Prop,
    ( cnd underscores16
     (0 ≤ i19 ∧ i19 ≤ ((s.size : Nat) : Int) ∧ Ok117 (s.extract 0 (Int.toNat i19)) (fun r11 =>
     cnd (!r11)
      (R mantissa10 exp2 neg2 trunc12 false i19 false)
      (Jv_7)))
     (Jv_7)) ∧
    (Jv_7 →
    R mantissa10 exp2 neg2 trunc12 false i19 true))))
theorem ok79 {s} {R : Int → Int → Bool → Bool → Bool → Int → Bool → Prop} (T : T79 s R) : Ok79 s R := by
  intro h  H
  have Y : Sy h [] h _ := Sy.startM H rfl
  apply calls79
  unfold S79
  unfold T79 at T
  refine cnd_imp T (fun T => ?_) (fun T => ?_)
  · exact ⟨_, _, _, _, _, _, _, Y.pick [] rfl, rfl, T⟩
  · obtain ⟨q_53, q_54, T⟩ := T
    refine ⟨q_53, q_54, ?_⟩
    obtain ⟨xc, hq, T⟩ := T
    refine ⟨xc, hq, ?_⟩
    obtain ⟨Jv, T0, T1⟩ := T
    obtain ⟨B, hB, _⟩ := Y.cut [] [] rfl
    refine ⟨fun lz h' => ∃ (neg2 : Bool) (i2 : Int), lz = [.bool neg2, .int .i64 i2] ∧ Sy h [] h' ([] ++ B) ∧ Jv neg2 i2, ?_, ?_⟩
    · subst hB
      replace T := T0
      clear T0 T1
      refine cnd_imp T (fun T => ?_) (fun T => ?_)
      · exact ⟨_, _, rfl, Y.pick [] rfl, T⟩
      · obtain ⟨Jv2, T0, T1⟩ := T
        obtain ⟨B_2, hB_2, _⟩ := Y.cut [] [] rfl
        refine ⟨fun lz h' => ∃ (neg : Bool) (i : Int), lz = [.bool neg, .int .i64 i] ∧ Sy h [] h' ([] ++ B_2) ∧ Jv2 neg i, ?_, ?_⟩
        · subst hB_2
          replace T := T0
          clear T0 T1
          refine cnd_imp T (fun T => ?_) (fun T => ?_)
          · exact ⟨_, _, rfl, Y.pick [] rfl, T⟩
          · exact ⟨_, _, rfl, Y.pick [] rfl, T⟩
        · subst hB_2
          clear T0 Y
          rintro neg i hv ⟨neg, i, e, Y, T⟩
          cases e
          replace T := T1 neg i T
          have Y : Sy _ _ _ [] := Y
          exact ⟨_, _, rfl, Y.pick [] rfl, T⟩
    · subst hB
      clear T0 Y
      rintro neg2 i2 hv2 ⟨neg2, i2, e, Y, T⟩
      cases e
      replace T := T1 neg2 i2 T
      have Y : Sy _ _ _ [] := Y
      obtain ⟨Jv_2, T0, T1⟩ := T
      obtain ⟨B_3, hB_3, _⟩ := Y.cut [] [] rfl
      intro K
      have hK : ∀  (hv4 : Heap), (Sy h [] hv4 ([] ++ B_3) ∧ Jv_2) → K hv4 := by
        subst hB_3
        clear T0 Y
        rintro hv4 ⟨Y, T⟩
        replace T := T1 T
        have Y : Sy _ _ _ [] := Y
        unfold K
        obtain ⟨Jv17, T0, T1⟩ := T
        obtain ⟨B_4, hB_4, _⟩ := Y.cut [] [] rfl
        refine ⟨fun lz h' => ∃ (mantissa10 : Int) (trunc12 : Bool) (i13 : Int) (underscores11 : Bool) (sawdot6 : Bool) (sawdigits6 : Bool) (nd6 : Int) (ndMant11 : Int) (dp10 : Int), lz = [.int .u64 mantissa10, .bool trunc12, .int .i64 i13, .bool underscores11, .bool sawdot6, .bool sawdigits6, .int .i64 nd6, .int .i64 ndMant11, .int .i64 dp10] ∧ Sy h [] h' ([] ++ B_4) ∧ Jv17 mantissa10 trunc12 i13 underscores11 sawdot6 sawdigits6 nd6 ndMant11 dp10, ?_, ?_⟩
        · subst hB_4
          replace T := T0
          clear T0 T1
          obtain ⟨Iv3, m3, T0, T1⟩ := T
          obtain ⟨B_5, hB_5, YB⟩ := Y.cut [] [] rfl
          obtain ⟨JJ, hJJ⟩ : ∃ JJ : Nat → List Value → Heap → Prop, JJ = (fun k lz h' => ∃ (mantissa6 : Int) (trunc7 : Bool) (i12 : Int) (underscores9 : Bool) (sawdot4 : Bool) (sawdigits4 : Bool) (nd4 : Int) (ndMant7 : Int) (dp8 : Int), lz = [.int .u64 mantissa6, .bool trunc7, .int .i64 i12, .bool underscores9, .bool sawdot4, .bool sawdigits4, .int .i64 nd4, .int .i64 ndMant7, .int .i64 dp8] ∧ Sy h [] h' ([] ++ B_5) ∧ Iv3 mantissa6 trunc7 i12 underscores9 sawdot4 sawdigits4 nd4 ndMant7 dp8 ∧ m3 mantissa6 trunc7 i12 underscores9 sawdot4 sawdigits4 nd4 ndMant7 dp8 = k) := ⟨_, rfl⟩
          refine ⟨fun lz h' => ∃ k, JJ k lz h', Lm JJ, ?_, ?_⟩
          · subst hJJ hB_5
            exact ⟨_, _, _, _, _, _, _, _, _, _, rfl, YB, T0, rfl⟩
          · clear YB T0 Y
            intro mantissa6 trunc7 i12 underscores9 sawdot4 sawdigits4 nd4 ndMant7 dp8 hv35 hI
            obtain ⟨k, hI, hm⟩ := loopIn hI
            subst hJJ hB_5
            obtain ⟨mantissa6, trunc7, i12, underscores9, sawdot4, sawdigits4, nd4, ndMant7, dp8, e, Y, T, rfl⟩ := hI
            cases e
            replace T := T1 mantissa6 trunc7 i12 underscores9 sawdot4 sawdigits4 nd4 ndMant7 dp8 T
            have Y : Sy _ _ _ [] := Y
            refine cnd_imp T (fun T => ?_) (fun T => ?_)
            · obtain ⟨Jv18, T0, T1⟩ := T
              obtain ⟨B_6, hB_6, _⟩ := Y.cut [] [] rfl
              refine ⟨fun lz h' => ∃ (mantissa9 : Int) (trunc11 : Bool) (underscores10 : Bool) (sawdot5 : Bool) (sawdigits5 : Bool) (nd5 : Int) (ndMant10 : Int) (dp9 : Int), lz = [.int .u64 mantissa9, .bool trunc11, .bool underscores10, .bool sawdot5, .bool sawdigits5, .int .i64 nd5, .int .i64 ndMant10, .int .i64 dp9] ∧ Sy h [] h' ([] ++ B_6) ∧ Jv18 mantissa9 trunc11 underscores10 sawdot5 sawdigits5 nd5 ndMant10 dp9, ?_, ?_⟩
              · subst hB_6
                replace T := T0
                clear T0 T1
                obtain ⟨q, q_2, T⟩ := T
                refine ⟨q, q_2, ?_⟩
                obtain ⟨xc15, hq, T⟩ := T
                refine ⟨xc15, hq, ?_⟩
                refine cnd_imp T (fun T => ?_) (fun T => ?_)
                · exact ⟨_, _, _, _, _, _, _, _, rfl, Y.pick [] rfl, T⟩
                · refine cnd_imp T (fun T => ?_) (fun T => ?_)
                  · refine cnd_imp T (fun T => ?_) (fun T => ?_)
                    · exact ⟨_, _, _, _, _, _, _, _, _, rfl, Y.pick [] rfl, T⟩
                    · exact ⟨_, _, _, _, _, _, _, _, rfl, Y.pick [] rfl, T⟩
                  · obtain ⟨Jv_3, T0, T1⟩ := T
                    obtain ⟨B_7, hB_7, _⟩ := Y.cut [] [] rfl
                    intro K11
                    have hK11 : ∀ (x4 : Bool) (hv36 : Heap), (Sy h [] hv36 ([] ++ B_7) ∧ Jv_3 x4) → K11 x4 hv36 := by
                      subst hB_7
                      clear T0 Y
                      rintro x4 hv36 ⟨Y, T⟩
                      replace T := T1 x4 T
                      have Y : Sy _ _ _ [] := Y
                      unfold K11
                      refine cnd_imp T (fun T => ?_) (fun T => ?_)
                      · obtain ⟨Jv_4, T0, T1⟩ := T
                        obtain ⟨B_8, hB_8, _⟩ := Y.cut [] [] rfl
                        intro K12
                        have hK12 : ∀  (hv37 : Heap), (Sy h [] hv37 ([] ++ B_8) ∧ Jv_4) → K12 hv37 := by
                          subst hB_8
                          clear T0 Y
                          rintro hv37 ⟨Y, T⟩
                          replace T := T1 T
                          have Y : Sy _ _ _ [] := Y
                          unfold K12
                          obtain ⟨Jv19, T0, T1⟩ := T
                          obtain ⟨B_9, hB_9, _⟩ := Y.cut [] [] rfl
                          refine ⟨fun lz h' => ∃ (mantissa7 : Int) (trunc9 : Bool) (ndMant8 : Int), lz = [.int .u64 mantissa7, .bool trunc9, .int .i64 ndMant8] ∧ Sy h [] h' ([] ++ B_9) ∧ Jv19 mantissa7 trunc9 ndMant8, ?_, ?_⟩
                          · subst hB_9
                            replace T := T0
                            clear T0 T1
                            refine cnd_imp T (fun T => ?_) (fun T => ?_)
                            · exact ⟨_, _, _, rfl, Y.pick [] rfl, T⟩
                            · obtain ⟨Jv20, T0, T1⟩ := T
                              obtain ⟨B_10, hB_10, _⟩ := Y.cut [] [] rfl
                              refine ⟨fun lz h' => ∃ (trunc8 : Bool), lz = [.bool trunc8] ∧ Sy h [] h' ([] ++ B_10) ∧ Jv20 trunc8, ?_, ?_⟩
                              · subst hB_10
                                replace T := T0
                                clear T0 T1
                                refine cnd_imp T (fun T => ?_) (fun T => ?_)
                                · exact ⟨_, rfl, Y.pick [] rfl, T⟩
                                · exact ⟨_, rfl, Y.pick [] rfl, T⟩
                              · subst hB_10
                                clear T0 Y
                                rintro trunc8 hv38 ⟨trunc8, e, Y, T⟩
                                cases e
                                replace T := T1 trunc8 T
                                have Y : Sy _ _ _ [] := Y
                                exact ⟨_, _, _, rfl, Y.pick [] rfl, T⟩
                          · subst hB_9
                            clear T0 Y
                            rintro mantissa7 trunc9 ndMant8 hv39 ⟨mantissa7, trunc9, ndMant8, e, Y, T⟩
                            cases e
                            replace T := T1 mantissa7 trunc9 ndMant8 T
                            have Y : Sy _ _ _ [] := Y
                            exact ⟨_, _, _, _, _, _, _, _, rfl, Y.pick [] rfl, T⟩
                        subst hB_8
                        replace T := T0
                        clear T0 T1
                        refine cnd_imp T (fun T => ?_) (fun T => ?_)
                        · refine cnd_imp T (fun T => ?_) (fun T => ?_)
                          · exact ⟨_, _, _, _, _, _, _, _, rfl, Y.pick [] rfl, T⟩
                          · exact hK12 _ ⟨Y.pick [] rfl, T⟩
                        · exact hK12 _ ⟨Y.pick [] rfl, T⟩
                      · obtain ⟨Jv_5, T0, T1⟩ := T
                        obtain ⟨B_11, hB_11, _⟩ := Y.cut [] [] rfl
                        intro K13
                        have hK13 : ∀ (x5 : Bool) (hv42 : Heap), (Sy h [] hv42 ([] ++ B_11) ∧ Jv_5 x5) → K13 x5 hv42 := by
                          subst hB_11
                          clear T0 Y
                          rintro x5 hv42 ⟨Y, T⟩
                          replace T := T1 x5 T
                          have Y : Sy _ _ _ [] := Y
                          unfold K13
                          refine cnd_imp T (fun T => ?_) (fun T => ?_)
                          · obtain ⟨Jv21, T0, T1⟩ := T
                            obtain ⟨B_12, hB_12, _⟩ := Y.cut [] [] rfl
                            refine ⟨fun lz h' => ∃ (mantissa8 : Int) (trunc10 : Bool) (ndMant9 : Int), lz = [.int .u64 mantissa8, .bool trunc10, .int .i64 ndMant9] ∧ Sy h [] h' ([] ++ B_12) ∧ Jv21 mantissa8 trunc10 ndMant9, ?_, ?_⟩
                            · subst hB_12
                              replace T := T0
                              clear T0 T1
                              refine cnd_imp T (fun T => ?_) (fun T => ?_)
                              · refine callX_sy (T _ (Hp.nil _)) (fun _ _ ⟨_, p, _⟩ => p.fr) alln ?_
                                rintro v9 hv43 ⟨r9, PP, rfl, T⟩
                                have Y : Sy _ _ hv43 [] := Y.gr PP.fr
                                clear PP
                                refine ⟨r9, rfl, ?_⟩
                                exact ⟨_, _, _, rfl, Y.pick [] rfl, T⟩
                              · exact ⟨_, _, _, rfl, Y.pick [] rfl, T⟩
                            · subst hB_12
                              clear T0 Y
                              rintro mantissa8 trunc10 ndMant9 hv44 ⟨mantissa8, trunc10, ndMant9, e, Y, T⟩
                              cases e
                              replace T := T1 mantissa8 trunc10 ndMant9 T
                              have Y : Sy _ _ _ [] := Y
                              exact ⟨_, _, _, _, _, _, _, _, rfl, Y.pick [] rfl, T⟩
                          · exact ⟨_, _, _, _, _, _, _, _, _, rfl, Y.pick [] rfl, T⟩
                        subst hB_11
                        replace T := T0
                        clear T0 T1
                        refine cnd_imp T (fun T => ?_) (fun T => ?_)
                        · refine callX_sy (T _ (Hp.nil _)) (fun _ _ ⟨_, p, _⟩ => p.fr) alln ?_
                          rintro v7 hv40 ⟨r7, PP, rfl, T⟩
                          have Y : Sy _ _ hv40 [] := Y.gr PP.fr
                          clear PP
                          refine ⟨r7, rfl, ?_⟩
                          refine cnd_imp T (fun T => ?_) (fun T => ?_)
                          · refine callX_sy (T _ (Hp.nil _)) (fun _ _ ⟨_, p, _⟩ => p.fr) alln ?_
                            rintro v8 hv41 ⟨r8, PP, rfl, T⟩
                            have Y : Sy _ _ hv41 [] := Y.gr PP.fr
                            clear PP
                            refine ⟨r8, rfl, ?_⟩
                            exact hK13 _ _ ⟨Y.pick [] rfl, T⟩
                          · exact hK13 _ _ ⟨Y.pick [] rfl, T⟩
                        · exact hK13 _ _ ⟨Y.pick [] rfl, T⟩
                    subst hB_7
                    replace T := T0
                    clear T0 T1
                    refine cnd_imp T (fun T => ?_) (fun T => ?_)
                    · exact hK11 _ _ ⟨Y.pick [] rfl, T⟩
                    · exact hK11 _ _ ⟨Y.pick [] rfl, T⟩
              · subst hB_6
                clear T0 Y
                rintro mantissa9 trunc11 underscores10 sawdot5 sawdigits5 nd5 ndMant10 dp9 hv45 ⟨mantissa9, trunc11, underscores10, sawdot5, sawdigits5, nd5, ndMant10, dp9, e, Y, T⟩
                cases e
                replace T := T1 mantissa9 trunc11 underscores10 sawdot5 sawdigits5 nd5 ndMant10 dp9 T
                have Y : Sy _ _ _ [] := Y
                exact loopBack hm ⟨_, _, _, _, _, _, _, _, _, rfl, Y.pick [] rfl, T.1, rfl⟩ T.2
            · exact ⟨_, _, _, _, _, _, _, _, _, rfl, Y.pick [] rfl, T⟩
        · subst hB_4
          clear T0 Y
          rintro mantissa10 trunc12 i13 underscores11 sawdot6 sawdigits6 nd6 ndMant11 dp10 hv46 ⟨mantissa10, trunc12, i13, underscores11, sawdot6, sawdigits6, nd6, ndMant11, dp10, e, Y, T⟩
          cases e
          replace T := T1 mantissa10 trunc12 i13 underscores11 sawdot6 sawdigits6 nd6 ndMant11 dp10 T
          have Y : Sy _ _ _ [] := Y
          refine cnd_imp T (fun T => ?_) (fun T => ?_)
          · exact ⟨_, _, _, _, _, _, _, Y.pick [] rfl, rfl, T⟩
          · obtain ⟨Jv22, T0, T1⟩ := T
            obtain ⟨B_13, hB_13, _⟩ := Y.cut [] [] rfl
            refine ⟨fun lz h' => ∃ (dp11 : Int), lz = [.int .i64 dp11] ∧ Sy h [] h' ([] ++ B_13) ∧ Jv22 dp11, ?_, ?_⟩
            · subst hB_13
              replace T := T0
              clear T0 T1
              refine cnd_imp T (fun T => ?_) (fun T => ?_)
              · exact ⟨_, rfl, Y.pick [] rfl, T⟩
              · exact ⟨_, rfl, Y.pick [] rfl, T⟩
            · subst hB_13
              clear T0 Y
              rintro dp11 hv47 ⟨dp11, e, Y, T⟩
              cases e
              replace T := T1 dp11 T
              have Y : Sy _ _ _ [] := Y
              obtain ⟨Jv23, T0, T1⟩ := T
              obtain ⟨B_14, hB_14, _⟩ := Y.cut [] [] rfl
              refine ⟨fun lz h' => ∃ (ndMant12 : Int) (dp12 : Int), lz = [.int .i64 ndMant12, .int .i64 dp12] ∧ Sy h [] h' ([] ++ B_14) ∧ Jv23 ndMant12 dp12, ?_, ?_⟩
              · subst hB_14
                replace T := T0
                clear T0 T1
                refine cnd_imp T (fun T => ?_) (fun T => ?_)
                · exact ⟨_, _, rfl, Y.pick [] rfl, T⟩
                · exact ⟨_, _, rfl, Y.pick [] rfl, T⟩
              · subst hB_14
                clear T0 Y
                rintro ndMant12 dp12 hv48 ⟨ndMant12, dp12, e, Y, T⟩
                cases e
                replace T := T1 ndMant12 dp12 T
                have Y : Sy _ _ _ [] := Y
                obtain ⟨Jv_6, T0, T1⟩ := T
                obtain ⟨B_15, hB_15, _⟩ := Y.cut [] [] rfl
                intro K18
                have hK18 : ∀ (i19 : Int) (underscores16 : Bool) (dp14 : Int) (hv60 : Heap), (Sy h [] hv60 ([] ++ B_15) ∧ Jv_6 i19 underscores16 dp14) → K18 i19 underscores16 dp14 hv60 := by
                  subst hB_15
                  clear T0 Y
                  rintro i19 underscores16 dp14 hv60 ⟨Y, T⟩
                  replace T := T1 i19 underscores16 dp14 T
                  have Y : Sy _ _ _ [] := Y
                  unfold K18
                  obtain ⟨Jv29, T0, T1⟩ := T
                  obtain ⟨B_16, hB_16, _⟩ := Y.cut [] [] rfl
                  refine ⟨fun lz h' => ∃ (exp2 : Int), lz = [.int .i64 exp2] ∧ Sy h [] h' ([] ++ B_16) ∧ Jv29 exp2, ?_, ?_⟩
                  · subst hB_16
                    replace T := T0
                    clear T0 T1
                    refine cnd_imp T (fun T => ?_) (fun T => ?_)
                    · exact ⟨_, rfl, Y.pick [] rfl, T⟩
                    · exact ⟨_, rfl, Y.pick [] rfl, T⟩
                  · subst hB_16
                    clear T0 Y
                    rintro exp2 hv61 ⟨exp2, e, Y, T⟩
                    cases e
                    replace T := T1 exp2 T
                    have Y : Sy _ _ _ [] := Y
                    obtain ⟨Jv_7, T0, T1⟩ := T
                    obtain ⟨B_17, hB_17, _⟩ := Y.cut [] [] rfl
                    intro K19
                    have hK19 : ∀  (hv63 : Heap), (Sy h [] hv63 ([] ++ B_17) ∧ Jv_7) → K19 hv63 := by
                      subst hB_17
                      clear T0 Y
                      rintro hv63 ⟨Y, T⟩
                      replace T := T1 T
                      have Y : Sy _ _ _ [] := Y
                      unfold K19
                      exact ⟨_, _, _, _, _, _, _, Y.pick [] rfl, rfl, T⟩
                    subst hB_17
                    replace T := T0
                    clear T0 T1
                    refine cnd_imp T (fun T => ?_) (fun T => ?_)
                    · obtain ⟨q_3, q_4, T⟩ := T
                      refine ⟨q_3, q_4, ?_⟩
                      refine callX_sy (T _ (Hp.nil _)) (fun _ _ ⟨_, p, _⟩ => p.fr) alln ?_
                      rintro v11 hv62 ⟨r11, PP, rfl, T⟩
                      have Y : Sy _ _ hv62 [] := Y.gr PP.fr
                      clear PP
                      refine ⟨r11, rfl, ?_⟩
                      refine cnd_imp T (fun T => ?_) (fun T => ?_)
                      · exact ⟨_, _, _, _, _, _, _, Y.pick [] rfl, rfl, T⟩
                      · exact hK19 _ ⟨Y.pick [] rfl, T⟩
                    · exact hK19 _ ⟨Y.pick [] rfl, T⟩
                subst hB_15
                replace T := T0
                clear T0 T1
                refine cnd_imp T (fun T => ?_) (fun T => ?_)
                · obtain ⟨q_23, q_24, T⟩ := T
                  refine ⟨q_23, q_24, ?_⟩
                  obtain ⟨xc16, hq, T⟩ := T
                  refine ⟨xc16, hq, ?_⟩
                  refine callX_sy (T _ (Hp.nil _)) (fun _ _ ⟨_, p, _⟩ => p.fr) alln ?_
                  rintro v10 hv49 ⟨r10, PP, rfl, T⟩
                  have Y : Sy _ _ hv49 [] := Y.gr PP.fr
                  clear PP
                  refine ⟨r10, rfl, ?_⟩
                  obtain ⟨Jv24, T0, T1⟩ := T
                  obtain ⟨B_18, hB_18, _⟩ := Y.cut [] [] rfl
                  refine ⟨fun lz h' => ∃ (i18 : Int) (underscores15 : Bool) (dp13 : Int), lz = [.int .i64 i18, .bool underscores15, .int .i64 dp13] ∧ Sy h [] h' ([] ++ B_18) ∧ Jv24 i18 underscores15 dp13, ?_, ?_⟩
                  · subst hB_18
                    replace T := T0
                    clear T0 T1
                    refine cnd_imp T (fun T => ?_) (fun T => ?_)
                    · refine cnd_imp T (fun T => ?_) (fun T => ?_)
                      · exact ⟨_, _, _, _, _, _, _, Y.pick [] rfl, rfl, T⟩
                      · obtain ⟨q_21, q_22, T⟩ := T
                        refine ⟨q_21, q_22, ?_⟩
                        obtain ⟨xc17, hq, T⟩ := T
                        refine ⟨xc17, hq, ?_⟩
                        obtain ⟨Jv25, T0, T1⟩ := T
                        obtain ⟨B_19, hB_19, _⟩ := Y.cut [] [] rfl
                        refine ⟨fun lz h' => ∃ (i15 : Int) (esign4 : Int), lz = [.int .i64 i15, .int .i64 esign4] ∧ Sy h [] h' ([] ++ B_19) ∧ Jv25 i15 esign4, ?_, ?_⟩
                        · subst hB_19
                          replace T := T0
                          clear T0 T1
                          refine cnd_imp T (fun T => ?_) (fun T => ?_)
                          · exact ⟨_, _, rfl, Y.pick [] rfl, T⟩
                          · obtain ⟨Jv26, T0, T1⟩ := T
                            obtain ⟨B_20, hB_20, _⟩ := Y.cut [] [] rfl
                            refine ⟨fun lz h' => ∃ (i14 : Int) (esign3 : Int), lz = [.int .i64 i14, .int .i64 esign3] ∧ Sy h [] h' ([] ++ B_20) ∧ Jv26 i14 esign3, ?_, ?_⟩
                            · subst hB_20
                              replace T := T0
                              clear T0 T1
                              refine cnd_imp T (fun T => ?_) (fun T => ?_)
                              · exact ⟨_, _, rfl, Y.pick [] rfl, T⟩
                              · exact ⟨_, _, rfl, Y.pick [] rfl, T⟩
                            · subst hB_20
                              clear T0 Y
                              rintro i14 esign3 hv50 ⟨i14, esign3, e, Y, T⟩
                              cases e
                              replace T := T1 i14 esign3 T
                              have Y : Sy _ _ _ [] := Y
                              exact ⟨_, _, rfl, Y.pick [] rfl, T⟩
                        · subst hB_19
                          clear T0 Y
                          rintro i15 esign4 hv51 ⟨i15, esign4, e, Y, T⟩
                          cases e
                          replace T := T1 i15 esign4 T
                          have Y : Sy _ _ _ [] := Y
                          obtain ⟨Jv_8, T0, T1⟩ := T
                          obtain ⟨B_21, hB_21, _⟩ := Y.cut [] [] rfl
                          intro K14
                          have hK14 : ∀  (hv52 : Heap), (Sy h [] hv52 ([] ++ B_21) ∧ Jv_8) → K14 hv52 := by
                            subst hB_21
                            clear T0 Y
                            rintro hv52 ⟨Y, T⟩
                            replace T := T1 T
                            have Y : Sy _ _ _ [] := Y
                            unfold K14
                            exact ⟨_, _, _, _, _, _, _, Y.pick [] rfl, rfl, T⟩
                          subst hB_21
                          replace T := T0
                          clear T0 T1
                          refine cnd_imp T (fun T => ?_) (fun T => ?_)
                          · exact hK14 _ ⟨Y.pick [] rfl, T⟩
                          · obtain ⟨q_19, q_20, T⟩ := T
                            refine ⟨q_19, q_20, ?_⟩
                            obtain ⟨xc18, hq, T⟩ := T
                            refine ⟨xc18, hq, ?_⟩
                            refine cnd_imp T (fun T => ?_) (fun T => ?_)
                            · exact hK14 _ ⟨Y.pick [] rfl, T⟩
                            · obtain ⟨q_17, q_18, T⟩ := T
                              refine ⟨q_17, q_18, ?_⟩
                              obtain ⟨xc19, hq, T⟩ := T
                              refine ⟨xc19, hq, ?_⟩
                              refine cnd_imp T (fun T => ?_) (fun T => ?_)
                              · exact ⟨_, _, _, _, _, _, _, Y.pick [] rfl, rfl, T⟩
                              · obtain ⟨Jv_9, T0, T1⟩ := T
                                obtain ⟨B_22, hB_22, _⟩ := Y.cut [] [] rfl
                                intro K17
                                have hK17 : ∀ (i17 : Int) (underscores14 : Bool) (ev8 : Int) (hv58 : Heap), (Sy h [] hv58 ([] ++ B_22) ∧ Jv_9 i17 underscores14 ev8) → K17 i17 underscores14 ev8 hv58 := by
                                  subst hB_22
                                  clear T0 Y
                                  rintro i17 underscores14 ev8 hv58 ⟨Y, T⟩
                                  replace T := T1 i17 underscores14 ev8 T
                                  have Y : Sy _ _ _ [] := Y
                                  unfold K17
                                  exact ⟨_, _, _, rfl, Y.pick [] rfl, T⟩
                                subst hB_22
                                replace T := T0
                                clear T0 T1
                                obtain ⟨Iv4, m4, T0, T1⟩ := T
                                obtain ⟨B_23, hB_23, YB⟩ := Y.cut [] [] rfl
                                obtain ⟨JJ_2, hJJ_2⟩ : ∃ JJ_2 : Nat → List Value → Heap → Prop, JJ_2 = (fun k_2 lz h' => ∃ (i16 : Int) (underscores12 : Bool) (ev5 : Int), lz = [.int .i64 i16, .bool underscores12, .int .i64 ev5] ∧ Sy h [] h' ([] ++ B_23) ∧ Iv4 i16 underscores12 ev5 ∧ m4 i16 underscores12 ev5 = k_2) := ⟨_, rfl⟩
                                refine ⟨fun lz h' => ∃ k_2, JJ_2 k_2 lz h', Lm JJ_2, ?_, ?_⟩
                                · subst hJJ_2 hB_23
                                  exact ⟨_, _, _, _, rfl, YB, T0, rfl⟩
                                · clear YB T0 Y
                                  intro i16 underscores12 ev5 hv53 hI
                                  obtain ⟨k_2, hI, hm_2⟩ := loopIn hI
                                  subst hJJ_2 hB_23
                                  obtain ⟨i16, underscores12, ev5, e, Y, T, rfl⟩ := hI
                                  cases e
                                  replace T := T1 i16 underscores12 ev5 T
                                  have Y : Sy _ _ _ [] := Y
                                  obtain ⟨Jv_10, T0, T1⟩ := T
                                  obtain ⟨B_24, hB_24, _⟩ := Y.cut [] [] rfl
                                  intro K16
                                  have hK16 : ∀  (hv55 : Heap), (Sy h [] hv55 ([] ++ B_24) ∧ Jv_10) → K16 hv55 := by
                                    subst hB_24
                                    clear T0 Y
                                    rintro hv55 ⟨Y, T⟩
                                    replace T := T1 T
                                    have Y : Sy _ _ _ [] := Y
                                    unfold K16
                                    obtain ⟨Jv27, T0, T1⟩ := T
                                    obtain ⟨B_25, hB_25, _⟩ := Y.cut [] [] rfl
                                    refine ⟨fun lz h' => ∃ (underscores13 : Bool) (ev7 : Int), lz = [.bool underscores13, .int .i64 ev7] ∧ Sy h [] h' ([] ++ B_25) ∧ Jv27 underscores13 ev7, ?_, ?_⟩
                                    · subst hB_25
                                      replace T := T0
                                      clear T0 T1
                                      obtain ⟨q_7, q_8, T⟩ := T
                                      refine ⟨q_7, q_8, ?_⟩
                                      obtain ⟨xc24, hq, T⟩ := T
                                      refine ⟨xc24, hq, ?_⟩
                                      refine cnd_imp T (fun T => ?_) (fun T => ?_)
                                      · exact ⟨_, _, rfl, Y.pick [] rfl, T⟩
                                      · obtain ⟨Jv28, T0, T1⟩ := T
                                        obtain ⟨B_26, hB_26, _⟩ := Y.cut [] [] rfl
                                        refine ⟨fun lz h' => ∃ (ev6 : Int), lz = [.int .i64 ev6] ∧ Sy h [] h' ([] ++ B_26) ∧ Jv28 ev6, ?_, ?_⟩
                                        · subst hB_26
                                          replace T := T0
                                          clear T0 T1
                                          refine cnd_imp T (fun T => ?_) (fun T => ?_)
                                          · obtain ⟨q_5, q_6, T⟩ := T
                                            refine ⟨q_5, q_6, ?_⟩
                                            obtain ⟨xc25, hq, T⟩ := T
                                            refine ⟨xc25, hq, ?_⟩
                                            exact ⟨_, rfl, Y.pick [] rfl, T⟩
                                          · exact ⟨_, rfl, Y.pick [] rfl, T⟩
                                        · subst hB_26
                                          clear T0 Y
                                          rintro ev6 hv56 ⟨ev6, e, Y, T⟩
                                          cases e
                                          replace T := T1 ev6 T
                                          have Y : Sy _ _ _ [] := Y
                                          exact ⟨_, _, rfl, Y.pick [] rfl, T⟩
                                    · subst hB_25
                                      clear T0 Y
                                      rintro underscores13 ev7 hv57 ⟨underscores13, ev7, e, Y, T⟩
                                      cases e
                                      replace T := T1 underscores13 ev7 T
                                      have Y : Sy _ _ _ [] := Y
                                      exact loopBack hm_2 ⟨_, _, _, rfl, Y.pick [] rfl, T.1, rfl⟩ T.2
                                  subst hB_24
                                  replace T := T0
                                  clear T0 T1
                                  obtain ⟨Jv_11, T0, T1⟩ := T
                                  obtain ⟨B_27, hB_27, _⟩ := Y.cut [] [] rfl
                                  intro K15
                                  have hK15 : ∀ (x6 : Bool) (hv54 : Heap), (Sy h [] hv54 ([] ++ B_27) ∧ Jv_11 x6) → K15 x6 hv54 := by
                                    subst hB_27
                                    clear T0 Y
                                    rintro x6 hv54 ⟨Y, T⟩
                                    replace T := T1 x6 T
                                    have Y : Sy _ _ _ [] := Y
                                    unfold K15
                                    refine cnd_imp T (fun T => ?_) (fun T => ?_)
                                    · exact hK16 _ ⟨Y.pick [] rfl, T⟩
                                    · exact hK17 _ _ _ _ ⟨Y.pick [] rfl, T⟩
                                  subst hB_27
                                  replace T := T0
                                  clear T0 T1
                                  refine cnd_imp T (fun T => ?_) (fun T => ?_)
                                  · obtain ⟨q_15, q_16, T⟩ := T
                                    refine ⟨q_15, q_16, ?_⟩
                                    obtain ⟨xc20, hq, T⟩ := T
                                    refine ⟨xc20, hq, ?_⟩
                                    refine cnd_imp T (fun T => ?_) (fun T => ?_)
                                    · obtain ⟨q_11, q_12, T⟩ := T
                                      refine ⟨q_11, q_12, ?_⟩
                                      obtain ⟨xc21, hq, T⟩ := T
                                      refine ⟨xc21, hq, ?_⟩
                                      refine cnd_imp T (fun T => ?_) (fun T => ?_)
                                      · exact hK16 _ ⟨Y.pick [] rfl, T⟩
                                      · obtain ⟨q_9, q_10, T⟩ := T
                                        refine ⟨q_9, q_10, ?_⟩
                                        obtain ⟨xc22, hq, T⟩ := T
                                        refine ⟨xc22, hq, ?_⟩
                                        exact hK15 _ _ ⟨Y.pick [] rfl, T⟩
                                    · obtain ⟨q_13, q_14, T⟩ := T
                                      refine ⟨q_13, q_14, ?_⟩
                                      obtain ⟨xc23, hq, T⟩ := T
                                      refine ⟨xc23, hq, ?_⟩
                                      exact hK15 _ _ ⟨Y.pick [] rfl, T⟩
                                  · exact hK17 _ _ _ _ ⟨Y.pick [] rfl, T⟩
                    · refine cnd_imp T (fun T => ?_) (fun T => ?_)
                      · exact ⟨_, _, _, _, _, _, _, Y.pick [] rfl, rfl, T⟩
                      · exact ⟨_, _, _, rfl, Y.pick [] rfl, T⟩
                  · subst hB_18
                    clear T0 Y
                    rintro i18 underscores15 dp13 hv59 ⟨i18, underscores15, dp13, e, Y, T⟩
                    cases e
                    replace T := T1 i18 underscores15 dp13 T
                    have Y : Sy _ _ _ [] := Y
                    exact hK18 _ _ _ _ ⟨Y.pick [] rfl, T⟩
                · refine cnd_imp T (fun T => ?_) (fun T => ?_)
                  · exact ⟨_, _, _, _, _, _, _, Y.pick [] rfl, rfl, T⟩
                  · exact hK18 _ _ _ _ ⟨Y.pick [] rfl, T⟩
      subst hB_3
      replace T := T0
      clear T0 T1
      refine cnd_imp T (fun T => ?_) (fun T => ?_)
      · obtain ⟨q_51, q_52, T⟩ := T
        refine ⟨q_51, q_52, ?_⟩
        obtain ⟨xc2, hq, T⟩ := T
        refine ⟨xc2, hq, ?_⟩
        refine cnd_imp T (fun T => ?_) (fun T => ?_)
        · obtain ⟨q_49, q_50, T⟩ := T
          refine ⟨q_49, q_50, ?_⟩
          obtain ⟨xc3, hq, T⟩ := T
          refine ⟨xc3, hq, ?_⟩
          refine callX_sy (T _ (Hp.nil _)) (fun _ _ ⟨_, p, _⟩ => p.fr) alln ?_
          rintro v hv3 ⟨r, PP, rfl, T⟩
          have Y : Sy _ _ hv3 [] := Y.gr PP.fr
          clear PP
          refine ⟨r, rfl, ?_⟩
          obtain ⟨Jv3, T0, T1⟩ := T
          obtain ⟨B_28, hB_28, _⟩ := Y.cut [] [] rfl
          refine ⟨fun lz h' => ∃ (hex : Bool) (i3 : Int) (base : Int) (maxMantDigits : Int) (expChar : Int), lz = [.bool hex, .int .i64 i3, .int .u64 base, .int .i64 maxMantDigits, .int .u8 expChar] ∧ Sy h [] h' ([] ++ B_28) ∧ Jv3 hex i3 base maxMantDigits expChar, ?_, ?_⟩
          · subst hB_28
            replace T := T0
            clear T0 T1
            refine cnd_imp T (fun T => ?_) (fun T => ?_)
            · exact ⟨_, _, _, _, _, rfl, Y.pick [] rfl, T⟩
            · exact ⟨_, _, _, _, _, rfl, Y.pick [] rfl, T⟩
          · subst hB_28
            clear T0 Y
            rintro hex i3 base maxMantDigits expChar hv5 ⟨hex, i3, base, maxMantDigits, expChar, e, Y, T⟩
            cases e
            replace T := T1 hex i3 base maxMantDigits expChar T
            have Y : Sy _ _ _ [] := Y
            obtain ⟨Jv4, T0, T1⟩ := T
            obtain ⟨B_29, hB_29, _⟩ := Y.cut [] [] rfl
            refine ⟨fun lz h' => ∃ (mantissa5 : Int) (trunc6 : Bool) (i5 : Int) (underscores3 : Bool) (sawdot3 : Bool) (sawdigits3 : Bool) (nd3 : Int) (ndMant5 : Int) (dp3 : Int), lz = [.int .u64 mantissa5, .bool trunc6, .int .i64 i5, .bool underscores3, .bool sawdot3, .bool sawdigits3, .int .i64 nd3, .int .i64 ndMant5, .int .i64 dp3] ∧ Sy h [] h' ([] ++ B_29) ∧ Jv4 mantissa5 trunc6 i5 underscores3 sawdot3 sawdigits3 nd3 ndMant5 dp3, ?_, ?_⟩
            · subst hB_29
              replace T := T0
              clear T0 T1
              obtain ⟨Iv, m, T0, T1⟩ := T
              obtain ⟨B_30, hB_30, YB⟩ := Y.cut [] [] rfl
              obtain ⟨JJ_3, hJJ_3⟩ : ∃ JJ_3 : Nat → List Value → Heap → Prop, JJ_3 = (fun k_3 lz h' => ∃ (mantissa : Int) (trunc : Bool) (i4 : Int) (underscores : Bool) (sawdot : Bool) (sawdigits : Bool) (nd : Int) (ndMant : Int) (dp : Int), lz = [.int .u64 mantissa, .bool trunc, .int .i64 i4, .bool underscores, .bool sawdot, .bool sawdigits, .int .i64 nd, .int .i64 ndMant, .int .i64 dp] ∧ Sy h [] h' ([] ++ B_30) ∧ Iv mantissa trunc i4 underscores sawdot sawdigits nd ndMant dp ∧ m mantissa trunc i4 underscores sawdot sawdigits nd ndMant dp = k_3) := ⟨_, rfl⟩
              refine ⟨fun lz h' => ∃ k_3, JJ_3 k_3 lz h', Lm JJ_3, ?_, ?_⟩
              · subst hJJ_3 hB_30
                exact ⟨_, _, _, _, _, _, _, _, _, _, rfl, YB, T0, rfl⟩
              · clear YB T0 Y
                intro mantissa trunc i4 underscores sawdot sawdigits nd ndMant dp hv6 hI
                obtain ⟨k_3, hI, hm_3⟩ := loopIn hI
                subst hJJ_3 hB_30
                obtain ⟨mantissa, trunc, i4, underscores, sawdot, sawdigits, nd, ndMant, dp, e, Y, T, rfl⟩ := hI
                cases e
                replace T := T1 mantissa trunc i4 underscores sawdot sawdigits nd ndMant dp T
                have Y : Sy _ _ _ [] := Y
                refine cnd_imp T (fun T => ?_) (fun T => ?_)
                · obtain ⟨Jv5, T0, T1⟩ := T
                  obtain ⟨B_31, hB_31, _⟩ := Y.cut [] [] rfl
                  refine ⟨fun lz h' => ∃ (mantissa4 : Int) (trunc5 : Bool) (underscores2 : Bool) (sawdot2 : Bool) (sawdigits2 : Bool) (nd2 : Int) (ndMant4 : Int) (dp2 : Int), lz = [.int .u64 mantissa4, .bool trunc5, .bool underscores2, .bool sawdot2, .bool sawdigits2, .int .i64 nd2, .int .i64 ndMant4, .int .i64 dp2] ∧ Sy h [] h' ([] ++ B_31) ∧ Jv5 mantissa4 trunc5 underscores2 sawdot2 sawdigits2 nd2 ndMant4 dp2, ?_, ?_⟩
                  · subst hB_31
                    replace T := T0
                    clear T0 T1
                    obtain ⟨q_25, q_26, T⟩ := T
                    refine ⟨q_25, q_26, ?_⟩
                    obtain ⟨xc4, hq, T⟩ := T
                    refine ⟨xc4, hq, ?_⟩
                    refine cnd_imp T (fun T => ?_) (fun T => ?_)
                    · exact ⟨_, _, _, _, _, _, _, _, rfl, Y.pick [] rfl, T⟩
                    · refine cnd_imp T (fun T => ?_) (fun T => ?_)
                      · refine cnd_imp T (fun T => ?_) (fun T => ?_)
                        · exact ⟨_, _, _, _, _, _, _, _, _, rfl, Y.pick [] rfl, T⟩
                        · exact ⟨_, _, _, _, _, _, _, _, rfl, Y.pick [] rfl, T⟩
                      · obtain ⟨Jv_12, T0, T1⟩ := T
                        obtain ⟨B_32, hB_32, _⟩ := Y.cut [] [] rfl
                        intro K2
                        have hK2 : ∀ (x : Bool) (hv7 : Heap), (Sy h [] hv7 ([] ++ B_32) ∧ Jv_12 x) → K2 x hv7 := by
                          subst hB_32
                          clear T0 Y
                          rintro x hv7 ⟨Y, T⟩
                          replace T := T1 x T
                          have Y : Sy _ _ _ [] := Y
                          unfold K2
                          refine cnd_imp T (fun T => ?_) (fun T => ?_)
                          · obtain ⟨Jv_13, T0, T1⟩ := T
                            obtain ⟨B_33, hB_33, _⟩ := Y.cut [] [] rfl
                            intro K3
                            have hK3 : ∀  (hv8 : Heap), (Sy h [] hv8 ([] ++ B_33) ∧ Jv_13) → K3 hv8 := by
                              subst hB_33
                              clear T0 Y
                              rintro hv8 ⟨Y, T⟩
                              replace T := T1 T
                              have Y : Sy _ _ _ [] := Y
                              unfold K3
                              obtain ⟨Jv6, T0, T1⟩ := T
                              obtain ⟨B_34, hB_34, _⟩ := Y.cut [] [] rfl
                              refine ⟨fun lz h' => ∃ (mantissa2 : Int) (trunc3 : Bool) (ndMant2 : Int), lz = [.int .u64 mantissa2, .bool trunc3, .int .i64 ndMant2] ∧ Sy h [] h' ([] ++ B_34) ∧ Jv6 mantissa2 trunc3 ndMant2, ?_, ?_⟩
                              · subst hB_34
                                replace T := T0
                                clear T0 T1
                                refine cnd_imp T (fun T => ?_) (fun T => ?_)
                                · exact ⟨_, _, _, rfl, Y.pick [] rfl, T⟩
                                · obtain ⟨Jv7, T0, T1⟩ := T
                                  obtain ⟨B_35, hB_35, _⟩ := Y.cut [] [] rfl
                                  refine ⟨fun lz h' => ∃ (trunc2 : Bool), lz = [.bool trunc2] ∧ Sy h [] h' ([] ++ B_35) ∧ Jv7 trunc2, ?_, ?_⟩
                                  · subst hB_35
                                    replace T := T0
                                    clear T0 T1
                                    refine cnd_imp T (fun T => ?_) (fun T => ?_)
                                    · exact ⟨_, rfl, Y.pick [] rfl, T⟩
                                    · exact ⟨_, rfl, Y.pick [] rfl, T⟩
                                  · subst hB_35
                                    clear T0 Y
                                    rintro trunc2 hv9 ⟨trunc2, e, Y, T⟩
                                    cases e
                                    replace T := T1 trunc2 T
                                    have Y : Sy _ _ _ [] := Y
                                    exact ⟨_, _, _, rfl, Y.pick [] rfl, T⟩
                              · subst hB_34
                                clear T0 Y
                                rintro mantissa2 trunc3 ndMant2 hv10 ⟨mantissa2, trunc3, ndMant2, e, Y, T⟩
                                cases e
                                replace T := T1 mantissa2 trunc3 ndMant2 T
                                have Y : Sy _ _ _ [] := Y
                                exact ⟨_, _, _, _, _, _, _, _, rfl, Y.pick [] rfl, T⟩
                            subst hB_33
                            replace T := T0
                            clear T0 T1
                            refine cnd_imp T (fun T => ?_) (fun T => ?_)
                            · refine cnd_imp T (fun T => ?_) (fun T => ?_)
                              · exact ⟨_, _, _, _, _, _, _, _, rfl, Y.pick [] rfl, T⟩
                              · exact hK3 _ ⟨Y.pick [] rfl, T⟩
                            · exact hK3 _ ⟨Y.pick [] rfl, T⟩
                          · obtain ⟨Jv_14, T0, T1⟩ := T
                            obtain ⟨B_36, hB_36, _⟩ := Y.cut [] [] rfl
                            intro K4
                            have hK4 : ∀ (x2 : Bool) (hv13 : Heap), (Sy h [] hv13 ([] ++ B_36) ∧ Jv_14 x2) → K4 x2 hv13 := by
                              subst hB_36
                              clear T0 Y
                              rintro x2 hv13 ⟨Y, T⟩
                              replace T := T1 x2 T
                              have Y : Sy _ _ _ [] := Y
                              unfold K4
                              refine cnd_imp T (fun T => ?_) (fun T => ?_)
                              · obtain ⟨Jv8, T0, T1⟩ := T
                                obtain ⟨B_37, hB_37, _⟩ := Y.cut [] [] rfl
                                refine ⟨fun lz h' => ∃ (mantissa3 : Int) (trunc4 : Bool) (ndMant3 : Int), lz = [.int .u64 mantissa3, .bool trunc4, .int .i64 ndMant3] ∧ Sy h [] h' ([] ++ B_37) ∧ Jv8 mantissa3 trunc4 ndMant3, ?_, ?_⟩
                                · subst hB_37
                                  replace T := T0
                                  clear T0 T1
                                  refine cnd_imp T (fun T => ?_) (fun T => ?_)
                                  · refine callX_sy (T _ (Hp.nil _)) (fun _ _ ⟨_, p, _⟩ => p.fr) alln ?_
                                    rintro v4 hv14 ⟨r4, PP, rfl, T⟩
                                    have Y : Sy _ _ hv14 [] := Y.gr PP.fr
                                    clear PP
                                    refine ⟨r4, rfl, ?_⟩
                                    exact ⟨_, _, _, rfl, Y.pick [] rfl, T⟩
                                  · exact ⟨_, _, _, rfl, Y.pick [] rfl, T⟩
                                · subst hB_37
                                  clear T0 Y
                                  rintro mantissa3 trunc4 ndMant3 hv15 ⟨mantissa3, trunc4, ndMant3, e, Y, T⟩
                                  cases e
                                  replace T := T1 mantissa3 trunc4 ndMant3 T
                                  have Y : Sy _ _ _ [] := Y
                                  exact ⟨_, _, _, _, _, _, _, _, rfl, Y.pick [] rfl, T⟩
                              · exact ⟨_, _, _, _, _, _, _, _, _, rfl, Y.pick [] rfl, T⟩
                            subst hB_36
                            replace T := T0
                            clear T0 T1
                            refine cnd_imp T (fun T => ?_) (fun T => ?_)
                            · refine callX_sy (T _ (Hp.nil _)) (fun _ _ ⟨_, p, _⟩ => p.fr) alln ?_
                              rintro v2 hv11 ⟨r2, PP, rfl, T⟩
                              have Y : Sy _ _ hv11 [] := Y.gr PP.fr
                              clear PP
                              refine ⟨r2, rfl, ?_⟩
                              refine cnd_imp T (fun T => ?_) (fun T => ?_)
                              · refine callX_sy (T _ (Hp.nil _)) (fun _ _ ⟨_, p, _⟩ => p.fr) alln ?_
                                rintro v3 hv12 ⟨r3, PP, rfl, T⟩
                                have Y : Sy _ _ hv12 [] := Y.gr PP.fr
                                clear PP
                                refine ⟨r3, rfl, ?_⟩
                                exact hK4 _ _ ⟨Y.pick [] rfl, T⟩
                              · exact hK4 _ _ ⟨Y.pick [] rfl, T⟩
                            · exact hK4 _ _ ⟨Y.pick [] rfl, T⟩
                        subst hB_32
                        replace T := T0
                        clear T0 T1
                        refine cnd_imp T (fun T => ?_) (fun T => ?_)
                        · exact hK2 _ _ ⟨Y.pick [] rfl, T⟩
                        · exact hK2 _ _ ⟨Y.pick [] rfl, T⟩
                  · subst hB_31
                    clear T0 Y
                    rintro mantissa4 trunc5 underscores2 sawdot2 sawdigits2 nd2 ndMant4 dp2 hv16 ⟨mantissa4, trunc5, underscores2, sawdot2, sawdigits2, nd2, ndMant4, dp2, e, Y, T⟩
                    cases e
                    replace T := T1 mantissa4 trunc5 underscores2 sawdot2 sawdigits2 nd2 ndMant4 dp2 T
                    have Y : Sy _ _ _ [] := Y
                    exact loopBack hm_3 ⟨_, _, _, _, _, _, _, _, _, rfl, Y.pick [] rfl, T.1, rfl⟩ T.2
                · exact ⟨_, _, _, _, _, _, _, _, _, rfl, Y.pick [] rfl, T⟩
            · subst hB_29
              clear T0 Y
              rintro mantissa5 trunc6 i5 underscores3 sawdot3 sawdigits3 nd3 ndMant5 dp3 hv17 ⟨mantissa5, trunc6, i5, underscores3, sawdot3, sawdigits3, nd3, ndMant5, dp3, e, Y, T⟩
              cases e
              replace T := T1 mantissa5 trunc6 i5 underscores3 sawdot3 sawdigits3 nd3 ndMant5 dp3 T
              have Y : Sy _ _ _ [] := Y
              refine cnd_imp T (fun T => ?_) (fun T => ?_)
              · exact ⟨_, _, _, _, _, _, _, Y.pick [] rfl, rfl, T⟩
              · obtain ⟨Jv9, T0, T1⟩ := T
                obtain ⟨B_38, hB_38, _⟩ := Y.cut [] [] rfl
                refine ⟨fun lz h' => ∃ (dp4 : Int), lz = [.int .i64 dp4] ∧ Sy h [] h' ([] ++ B_38) ∧ Jv9 dp4, ?_, ?_⟩
                · subst hB_38
                  replace T := T0
                  clear T0 T1
                  refine cnd_imp T (fun T => ?_) (fun T => ?_)
                  · exact ⟨_, rfl, Y.pick [] rfl, T⟩
                  · exact ⟨_, rfl, Y.pick [] rfl, T⟩
                · subst hB_38
                  clear T0 Y
                  rintro dp4 hv18 ⟨dp4, e, Y, T⟩
                  cases e
                  replace T := T1 dp4 T
                  have Y : Sy _ _ _ [] := Y
                  obtain ⟨Jv10, T0, T1⟩ := T
                  obtain ⟨B_39, hB_39, _⟩ := Y.cut [] [] rfl
                  refine ⟨fun lz h' => ∃ (ndMant6 : Int) (dp5 : Int), lz = [.int .i64 ndMant6, .int .i64 dp5] ∧ Sy h [] h' ([] ++ B_39) ∧ Jv10 ndMant6 dp5, ?_, ?_⟩
                  · subst hB_39
                    replace T := T0
                    clear T0 T1
                    refine cnd_imp T (fun T => ?_) (fun T => ?_)
                    · exact ⟨_, _, rfl, Y.pick [] rfl, T⟩
                    · exact ⟨_, _, rfl, Y.pick [] rfl, T⟩
                  · subst hB_39
                    clear T0 Y
                    rintro ndMant6 dp5 hv19 ⟨ndMant6, dp5, e, Y, T⟩
                    cases e
                    replace T := T1 ndMant6 dp5 T
                    have Y : Sy _ _ _ [] := Y
                    obtain ⟨Jv_15, T0, T1⟩ := T
                    obtain ⟨B_40, hB_40, _⟩ := Y.cut [] [] rfl
                    intro K9
                    have hK9 : ∀ (i11 : Int) (underscores8 : Bool) (dp7 : Int) (hv31 : Heap), (Sy h [] hv31 ([] ++ B_40) ∧ Jv_15 i11 underscores8 dp7) → K9 i11 underscores8 dp7 hv31 := by
                      subst hB_40
                      clear T0 Y
                      rintro i11 underscores8 dp7 hv31 ⟨Y, T⟩
                      replace T := T1 i11 underscores8 dp7 T
                      have Y : Sy _ _ _ [] := Y
                      unfold K9
                      obtain ⟨Jv16, T0, T1⟩ := T
                      obtain ⟨B_41, hB_41, _⟩ := Y.cut [] [] rfl
                      refine ⟨fun lz h' => ∃ (exp : Int), lz = [.int .i64 exp] ∧ Sy h [] h' ([] ++ B_41) ∧ Jv16 exp, ?_, ?_⟩
                      · subst hB_41
                        replace T := T0
                        clear T0 T1
                        refine cnd_imp T (fun T => ?_) (fun T => ?_)
                        · exact ⟨_, rfl, Y.pick [] rfl, T⟩
                        · exact ⟨_, rfl, Y.pick [] rfl, T⟩
                      · subst hB_41
                        clear T0 Y
                        rintro exp hv32 ⟨exp, e, Y, T⟩
                        cases e
                        replace T := T1 exp T
                        have Y : Sy _ _ _ [] := Y
                        obtain ⟨Jv_16, T0, T1⟩ := T
                        obtain ⟨B_42, hB_42, _⟩ := Y.cut [] [] rfl
                        intro K10
                        have hK10 : ∀  (hv34 : Heap), (Sy h [] hv34 ([] ++ B_42) ∧ Jv_16) → K10 hv34 := by
                          subst hB_42
                          clear T0 Y
                          rintro hv34 ⟨Y, T⟩
                          replace T := T1 T
                          have Y : Sy _ _ _ [] := Y
                          unfold K10
                          exact ⟨_, _, _, _, _, _, _, Y.pick [] rfl, rfl, T⟩
                        subst hB_42
                        replace T := T0
                        clear T0 T1
                        refine cnd_imp T (fun T => ?_) (fun T => ?_)
                        · obtain ⟨q_27, q_28, T⟩ := T
                          refine ⟨q_27, q_28, ?_⟩
                          refine callX_sy (T _ (Hp.nil _)) (fun _ _ ⟨_, p, _⟩ => p.fr) alln ?_
                          rintro v6 hv33 ⟨r6, PP, rfl, T⟩
                          have Y : Sy _ _ hv33 [] := Y.gr PP.fr
                          clear PP
                          refine ⟨r6, rfl, ?_⟩
                          refine cnd_imp T (fun T => ?_) (fun T => ?_)
                          · exact ⟨_, _, _, _, _, _, _, Y.pick [] rfl, rfl, T⟩
                          · exact hK10 _ ⟨Y.pick [] rfl, T⟩
                        · exact hK10 _ ⟨Y.pick [] rfl, T⟩
                    subst hB_40
                    replace T := T0
                    clear T0 T1
                    refine cnd_imp T (fun T => ?_) (fun T => ?_)
                    · obtain ⟨q_47, q_48, T⟩ := T
                      refine ⟨q_47, q_48, ?_⟩
                      obtain ⟨xc5, hq, T⟩ := T
                      refine ⟨xc5, hq, ?_⟩
                      refine callX_sy (T _ (Hp.nil _)) (fun _ _ ⟨_, p, _⟩ => p.fr) alln ?_
                      rintro v5 hv20 ⟨r5, PP, rfl, T⟩
                      have Y : Sy _ _ hv20 [] := Y.gr PP.fr
                      clear PP
                      refine ⟨r5, rfl, ?_⟩
                      obtain ⟨Jv11, T0, T1⟩ := T
                      obtain ⟨B_43, hB_43, _⟩ := Y.cut [] [] rfl
                      refine ⟨fun lz h' => ∃ (i10 : Int) (underscores7 : Bool) (dp6 : Int), lz = [.int .i64 i10, .bool underscores7, .int .i64 dp6] ∧ Sy h [] h' ([] ++ B_43) ∧ Jv11 i10 underscores7 dp6, ?_, ?_⟩
                      · subst hB_43
                        replace T := T0
                        clear T0 T1
                        refine cnd_imp T (fun T => ?_) (fun T => ?_)
                        · refine cnd_imp T (fun T => ?_) (fun T => ?_)
                          · exact ⟨_, _, _, _, _, _, _, Y.pick [] rfl, rfl, T⟩
                          · obtain ⟨q_45, q_46, T⟩ := T
                            refine ⟨q_45, q_46, ?_⟩
                            obtain ⟨xc6, hq, T⟩ := T
                            refine ⟨xc6, hq, ?_⟩
                            obtain ⟨Jv12, T0, T1⟩ := T
                            obtain ⟨B_44, hB_44, _⟩ := Y.cut [] [] rfl
                            refine ⟨fun lz h' => ∃ (i7 : Int) (esign2 : Int), lz = [.int .i64 i7, .int .i64 esign2] ∧ Sy h [] h' ([] ++ B_44) ∧ Jv12 i7 esign2, ?_, ?_⟩
                            · subst hB_44
                              replace T := T0
                              clear T0 T1
                              refine cnd_imp T (fun T => ?_) (fun T => ?_)
                              · exact ⟨_, _, rfl, Y.pick [] rfl, T⟩
                              · obtain ⟨Jv13, T0, T1⟩ := T
                                obtain ⟨B_45, hB_45, _⟩ := Y.cut [] [] rfl
                                refine ⟨fun lz h' => ∃ (i6 : Int) (esign : Int), lz = [.int .i64 i6, .int .i64 esign] ∧ Sy h [] h' ([] ++ B_45) ∧ Jv13 i6 esign, ?_, ?_⟩
                                · subst hB_45
                                  replace T := T0
                                  clear T0 T1
                                  refine cnd_imp T (fun T => ?_) (fun T => ?_)
                                  · exact ⟨_, _, rfl, Y.pick [] rfl, T⟩
                                  · exact ⟨_, _, rfl, Y.pick [] rfl, T⟩
                                · subst hB_45
                                  clear T0 Y
                                  rintro i6 esign hv21 ⟨i6, esign, e, Y, T⟩
                                  cases e
                                  replace T := T1 i6 esign T
                                  have Y : Sy _ _ _ [] := Y
                                  exact ⟨_, _, rfl, Y.pick [] rfl, T⟩
                            · subst hB_44
                              clear T0 Y
                              rintro i7 esign2 hv22 ⟨i7, esign2, e, Y, T⟩
                              cases e
                              replace T := T1 i7 esign2 T
                              have Y : Sy _ _ _ [] := Y
                              obtain ⟨Jv_17, T0, T1⟩ := T
                              obtain ⟨B_46, hB_46, _⟩ := Y.cut [] [] rfl
                              intro K5
                              have hK5 : ∀  (hv23 : Heap), (Sy h [] hv23 ([] ++ B_46) ∧ Jv_17) → K5 hv23 := by
                                subst hB_46
                                clear T0 Y
                                rintro hv23 ⟨Y, T⟩
                                replace T := T1 T
                                have Y : Sy _ _ _ [] := Y
                                unfold K5
                                exact ⟨_, _, _, _, _, _, _, Y.pick [] rfl, rfl, T⟩
                              subst hB_46
                              replace T := T0
                              clear T0 T1
                              refine cnd_imp T (fun T => ?_) (fun T => ?_)
                              · exact hK5 _ ⟨Y.pick [] rfl, T⟩
                              · obtain ⟨q_43, q_44, T⟩ := T
                                refine ⟨q_43, q_44, ?_⟩
                                obtain ⟨xc7, hq, T⟩ := T
                                refine ⟨xc7, hq, ?_⟩
                                refine cnd_imp T (fun T => ?_) (fun T => ?_)
                                · exact hK5 _ ⟨Y.pick [] rfl, T⟩
                                · obtain ⟨q_41, q_42, T⟩ := T
                                  refine ⟨q_41, q_42, ?_⟩
                                  obtain ⟨xc8, hq, T⟩ := T
                                  refine ⟨xc8, hq, ?_⟩
                                  refine cnd_imp T (fun T => ?_) (fun T => ?_)
                                  · exact ⟨_, _, _, _, _, _, _, Y.pick [] rfl, rfl, T⟩
                                  · obtain ⟨Jv_18, T0, T1⟩ := T
                                    obtain ⟨B_47, hB_47, _⟩ := Y.cut [] [] rfl
                                    intro K8
                                    have hK8 : ∀ (i9 : Int) (underscores6 : Bool) (ev4 : Int) (hv29 : Heap), (Sy h [] hv29 ([] ++ B_47) ∧ Jv_18 i9 underscores6 ev4) → K8 i9 underscores6 ev4 hv29 := by
                                      subst hB_47
                                      clear T0 Y
                                      rintro i9 underscores6 ev4 hv29 ⟨Y, T⟩
                                      replace T := T1 i9 underscores6 ev4 T
                                      have Y : Sy _ _ _ [] := Y
                                      unfold K8
                                      exact ⟨_, _, _, rfl, Y.pick [] rfl, T⟩
                                    subst hB_47
                                    replace T := T0
                                    clear T0 T1
                                    obtain ⟨Iv2, m2, T0, T1⟩ := T
                                    obtain ⟨B_48, hB_48, YB⟩ := Y.cut [] [] rfl
                                    obtain ⟨JJ_4, hJJ_4⟩ : ∃ JJ_4 : Nat → List Value → Heap → Prop, JJ_4 = (fun k_4 lz h' => ∃ (i8 : Int) (underscores4 : Bool) (ev : Int), lz = [.int .i64 i8, .bool underscores4, .int .i64 ev] ∧ Sy h [] h' ([] ++ B_48) ∧ Iv2 i8 underscores4 ev ∧ m2 i8 underscores4 ev = k_4) := ⟨_, rfl⟩
                                    refine ⟨fun lz h' => ∃ k_4, JJ_4 k_4 lz h', Lm JJ_4, ?_, ?_⟩
                                    · subst hJJ_4 hB_48
                                      exact ⟨_, _, _, _, rfl, YB, T0, rfl⟩
                                    · clear YB T0 Y
                                      intro i8 underscores4 ev hv24 hI
                                      obtain ⟨k_4, hI, hm_4⟩ := loopIn hI
                                      subst hJJ_4 hB_48
                                      obtain ⟨i8, underscores4, ev, e, Y, T, rfl⟩ := hI
                                      cases e
                                      replace T := T1 i8 underscores4 ev T
                                      have Y : Sy _ _ _ [] := Y
                                      obtain ⟨Jv_19, T0, T1⟩ := T
                                      obtain ⟨B_49, hB_49, _⟩ := Y.cut [] [] rfl
                                      intro K7
                                      have hK7 : ∀  (hv26 : Heap), (Sy h [] hv26 ([] ++ B_49) ∧ Jv_19) → K7 hv26 := by
                                        subst hB_49
                                        clear T0 Y
                                        rintro hv26 ⟨Y, T⟩
                                        replace T := T1 T
                                        have Y : Sy _ _ _ [] := Y
                                        unfold K7
                                        obtain ⟨Jv14, T0, T1⟩ := T
                                        obtain ⟨B_50, hB_50, _⟩ := Y.cut [] [] rfl
                                        refine ⟨fun lz h' => ∃ (underscores5 : Bool) (ev3 : Int), lz = [.bool underscores5, .int .i64 ev3] ∧ Sy h [] h' ([] ++ B_50) ∧ Jv14 underscores5 ev3, ?_, ?_⟩
                                        · subst hB_50
                                          replace T := T0
                                          clear T0 T1
                                          obtain ⟨q_31, q_32, T⟩ := T
                                          refine ⟨q_31, q_32, ?_⟩
                                          obtain ⟨xc13, hq, T⟩ := T
                                          refine ⟨xc13, hq, ?_⟩
                                          refine cnd_imp T (fun T => ?_) (fun T => ?_)
                                          · exact ⟨_, _, rfl, Y.pick [] rfl, T⟩
                                          · obtain ⟨Jv15, T0, T1⟩ := T
                                            obtain ⟨B_51, hB_51, _⟩ := Y.cut [] [] rfl
                                            refine ⟨fun lz h' => ∃ (ev2 : Int), lz = [.int .i64 ev2] ∧ Sy h [] h' ([] ++ B_51) ∧ Jv15 ev2, ?_, ?_⟩
                                            · subst hB_51
                                              replace T := T0
                                              clear T0 T1
                                              refine cnd_imp T (fun T => ?_) (fun T => ?_)
                                              · obtain ⟨q_29, q_30, T⟩ := T
                                                refine ⟨q_29, q_30, ?_⟩
                                                obtain ⟨xc14, hq, T⟩ := T
                                                refine ⟨xc14, hq, ?_⟩
                                                exact ⟨_, rfl, Y.pick [] rfl, T⟩
                                              · exact ⟨_, rfl, Y.pick [] rfl, T⟩
                                            · subst hB_51
                                              clear T0 Y
                                              rintro ev2 hv27 ⟨ev2, e, Y, T⟩
                                              cases e
                                              replace T := T1 ev2 T
                                              have Y : Sy _ _ _ [] := Y
                                              exact ⟨_, _, rfl, Y.pick [] rfl, T⟩
                                        · subst hB_50
                                          clear T0 Y
                                          rintro underscores5 ev3 hv28 ⟨underscores5, ev3, e, Y, T⟩
                                          cases e
                                          replace T := T1 underscores5 ev3 T
                                          have Y : Sy _ _ _ [] := Y
                                          exact loopBack hm_4 ⟨_, _, _, rfl, Y.pick [] rfl, T.1, rfl⟩ T.2
                                      subst hB_49
                                      replace T := T0
                                      clear T0 T1
                                      obtain ⟨Jv_20, T0, T1⟩ := T
                                      obtain ⟨B_52, hB_52, _⟩ := Y.cut [] [] rfl
                                      intro K6
                                      have hK6 : ∀ (x3 : Bool) (hv25 : Heap), (Sy h [] hv25 ([] ++ B_52) ∧ Jv_20 x3) → K6 x3 hv25 := by
                                        subst hB_52
                                        clear T0 Y
                                        rintro x3 hv25 ⟨Y, T⟩
                                        replace T := T1 x3 T
                                        have Y : Sy _ _ _ [] := Y
                                        unfold K6
                                        refine cnd_imp T (fun T => ?_) (fun T => ?_)
                                        · exact hK7 _ ⟨Y.pick [] rfl, T⟩
                                        · exact hK8 _ _ _ _ ⟨Y.pick [] rfl, T⟩
                                      subst hB_52
                                      replace T := T0
                                      clear T0 T1
                                      refine cnd_imp T (fun T => ?_) (fun T => ?_)
                                      · obtain ⟨q_39, q_40, T⟩ := T
                                        refine ⟨q_39, q_40, ?_⟩
                                        obtain ⟨xc9, hq, T⟩ := T
                                        refine ⟨xc9, hq, ?_⟩
                                        refine cnd_imp T (fun T => ?_) (fun T => ?_)
                                        · obtain ⟨q_35, q_36, T⟩ := T
                                          refine ⟨q_35, q_36, ?_⟩
                                          obtain ⟨xc10, hq, T⟩ := T
                                          refine ⟨xc10, hq, ?_⟩
                                          refine cnd_imp T (fun T => ?_) (fun T => ?_)
                                          · exact hK7 _ ⟨Y.pick [] rfl, T⟩
                                          · obtain ⟨q_33, q_34, T⟩ := T
                                            refine ⟨q_33, q_34, ?_⟩
                                            obtain ⟨xc11, hq, T⟩ := T
                                            refine ⟨xc11, hq, ?_⟩
                                            exact hK6 _ _ ⟨Y.pick [] rfl, T⟩
                                        · obtain ⟨q_37, q_38, T⟩ := T
                                          refine ⟨q_37, q_38, ?_⟩
                                          obtain ⟨xc12, hq, T⟩ := T
                                          refine ⟨xc12, hq, ?_⟩
                                          exact hK6 _ _ ⟨Y.pick [] rfl, T⟩
                                      · exact hK8 _ _ _ _ ⟨Y.pick [] rfl, T⟩
                        · refine cnd_imp T (fun T => ?_) (fun T => ?_)
                          · exact ⟨_, _, _, _, _, _, _, Y.pick [] rfl, rfl, T⟩
                          · exact ⟨_, _, _, rfl, Y.pick [] rfl, T⟩
                      · subst hB_43
                        clear T0 Y
                        rintro i10 underscores7 dp6 hv30 ⟨i10, underscores7, dp6, e, Y, T⟩
                        cases e
                        replace T := T1 i10 underscores7 dp6 T
                        have Y : Sy _ _ _ [] := Y
                        exact hK9 _ _ _ _ ⟨Y.pick [] rfl, T⟩
                    · refine cnd_imp T (fun T => ?_) (fun T => ?_)
                      · exact ⟨_, _, _, _, _, _, _, Y.pick [] rfl, rfl, T⟩
                      · exact hK9 _ _ _ _ ⟨Y.pick [] rfl, T⟩
        · exact hK _ ⟨Y.pick [] rfl, T⟩
      · exact hK _ ⟨Y.pick [] rfl, T⟩
/-- internal/strconv.atof64exact -/
def S89 (mantissa : Int) (exp : Int) (neg : Bool) (h : Heap) (R : Value → Heap → Prop) : Prop :=
  ∃ x : Int, hcell h 5 0 = some (.int .u64 x) ∧ 0 ≤ x ∧ cnd ((Int.fdiv mantissa (2 ^ (min (Int.toNat x) 64))) != (0 : Int))
   (R (.tuple #[.float .f64 0, .bool false]) h)
   (∃ Jv : List Value → Heap → Prop,
   ( cnd neg
    (Jv [.float .f64 (Op.negFloat .f64 ((FloatKind.f64).nearest mantissa))] h)
    (Jv [.float .f64 ((FloatKind.f64).nearest mantissa)] h)) ∧
   ∀ f : Nat, ∀ hv, Jv [.float .f64 f] hv →
   let K := fun (hv3 : Heap) =>
    (R (.tuple #[.float .f64 f, .bool false]) hv3)
   cnd (exp == (0 : Int))
    (R (.tuple #[.float .f64 f, .bool true]) hv)
    (cnd (decide (exp > (0 : Int)))
     (cnd (decide (exp ≤ (37 : Int)))
      (∃ Jv2 : List Value → Heap → Prop,
      ( cnd (decide (exp > (22 : Int)))
       (∃ (xA : Option Addr) (xL xC : Nat), hcell hv 10 0 = some (.slice xA xL xC) ∧ ∃ b o, xA = some ⟨b, o, none⟩ ∧ 0 ≤ (IntKind.i64.wrap (exp - (22 : Int))) ∧ (IntKind.i64.wrap (exp - (22 : Int))) < (xL : Nat) ∧ ∃ x2 : Nat, hcell hv b (o + (Int.toNat (IntKind.i64.wrap (exp - (22 : Int)))) * 1) = some (.float .f64 x2) ∧ ∀ r, FRes .f64 f x2 ((FloatKind.f64).format.mul f x2) r → Jv2 [.int .i64 22, .float .f64 r] hv)
       (Jv2 [.int .i64 exp, .float .f64 f] hv)) ∧
      ∀ exp2 : Int, ∀ f2 : Nat, ∀ hv2, Jv2 [.int .i64 exp2, .float .f64 f2] hv2 →
      cnd ((FloatKind.f64).format.order f2 4831355200913801216 == some .gt)
       (R (.tuple #[.float .f64 f2, .bool false]) hv2)
       (cnd ((FloatKind.f64).format.order f2 14054727237768577024 == some .lt)
        (R (.tuple #[.float .f64 f2, .bool false]) hv2)
        (∃ (xA2 : Option Addr) (xL2 xC2 : Nat), hcell hv2 10 0 = some (.slice xA2 xL2 xC2) ∧ ∃ b2 o2, xA2 = some ⟨b2, o2, none⟩ ∧ 0 ≤ exp2 ∧ exp2 < (xL2 : Nat) ∧ ∃ x3 : Nat, hcell hv2 b2 (o2 + (Int.toNat exp2) * 1) = some (.float .f64 x3) ∧ ∀ r2, FRes .f64 f2 x3 ((FloatKind.f64).format.mul f2 x3) r2 → R (.tuple #[.float .f64 r2, .bool true]) hv2)))
      (cnd (decide (exp < (0 : Int)))
       (cnd (decide (exp ≥ ((-22) : Int)))
        (∃ (xA3 : Option Addr) (xL3 xC3 : Nat), hcell hv 10 0 = some (.slice xA3 xL3 xC3) ∧ ∃ b3 o3, xA3 = some ⟨b3, o3, none⟩ ∧ 0 ≤ (IntKind.i64.wrap (0 - exp)) ∧ (IntKind.i64.wrap (0 - exp)) < (xL3 : Nat) ∧ ∃ x4 : Nat, hcell hv b3 (o3 + (Int.toNat (IntKind.i64.wrap (0 - exp))) * 1) = some (.float .f64 x4) ∧ ∀ r3, FRes .f64 f x4 ((FloatKind.f64).format.div f x4) r3 → R (.tuple #[.float .f64 r3, .bool true]) hv)
        (K hv))
       (K hv)))
     (cnd (decide (exp < (0 : Int)))
      (cnd (decide (exp ≥ ((-22) : Int)))
       (∃ (xA4 : Option Addr) (xL4 xC4 : Nat), hcell hv 10 0 = some (.slice xA4 xL4 xC4) ∧ ∃ b4 o4, xA4 = some ⟨b4, o4, none⟩ ∧ 0 ≤ (IntKind.i64.wrap (0 - exp)) ∧ (IntKind.i64.wrap (0 - exp)) < (xL4 : Nat) ∧ ∃ x5 : Nat, hcell hv b4 (o4 + (Int.toNat (IntKind.i64.wrap (0 - exp))) * 1) = some (.float .f64 x5) ∧ ∀ r4, FRes .f64 f x5 ((FloatKind.f64).format.div f x5) r4 → R (.tuple #[.float .f64 r4, .bool true]) hv)
       (K hv))
      (K hv))))
theorem calls89 {h : Heap} {R : Value → Heap → Prop} (mantissa : Int) (exp : Int) (neg : Bool) (H : S89 mantissa exp neg h R) : CallsH Tryz.prog 89 #[.int .u64 mantissa, .int .i64 exp, .bool neg] h R := by
  have e : S89 mantissa exp neg h R = FX (envX [] 64) { loops := [], joins := [(15, ⟨[1, 7], [6], [], []⟩), (30, ⟨[7], [1, 6], [], []⟩)], blocks := [], draws := [] } Tryz.f89 (Tryz.f89.body.getD .skip) [.int .u64 mantissa, .int .i64 exp, .bool neg] h R := by kernel_rfl
  exact calls_of_FX (envX_ok _ _) Tryz.func89 (by kernel_rfl) (by kernel_rfl) (by kernel_rfl) (e ▸ H)
/-- internal/strconv.atof64exact -/
def Ok89 (mantissa : Int) (exp : Int) (neg : Bool) (R : Nat → Bool → Prop) : Prop :=
  ∀ (h : Heap) (gl : GL), Hp h [Ck.glob gl] → CallsH Tryz.prog 89 #[.int .u64 mantissa, .int .i64 exp, .bool neg] h fun v h' => ∃ (raV : Nat) (rbV : Bool), Sy h [] h' [] ∧ v = .tuple #[.float .f64 raV, .bool rbV] ∧ R raV rbV
theorem Ok89.mono {mantissa exp neg} {R R' : Nat → Bool → Prop} (H : Ok89 mantissa exp neg R) (kz : ∀ raV rbV, R raV rbV → R' raV rbV) : Ok89 mantissa exp neg R' :=
  fun h gl hp => (H h gl hp).mono fun _ _ ⟨raV, rbV, P, e, q⟩ => ⟨raV, rbV, P, e, kz _ _ q⟩
def T89 (mantissa : Int) (exp : Int) (neg : Bool) (R : Nat → Bool → Prop) : Prop :=
  0 ≤ (52 : Int) ∧ cnd ((Int.fdiv mantissa (2 ^ (min (Int.toNat (52 : Int)) 64))) != (0 : Int))
   (R 0 false)
   (∃ Jv : Nat → Prop,
   ( cnd neg
    (Jv (Op.negFloat .f64 ((FloatKind.f64).nearest mantissa)))
    (Jv ((FloatKind.f64).nearest mantissa))) ∧
   ∀ f : Nat, Jv f →
   ∃ Jv_2 : Prop,
   ( cnd (exp == (0 : Int))
    (R f true)
    (cnd (decide (exp > (0 : Int)))
     (cnd (decide (exp ≤ (37 : Int)))
      (∃ Jv2 : Int → Nat → Prop,
      ( cnd (decide (exp > (22 : Int)))
        (0 ≤ (IntKind.i64.wrap (exp - (22 : Int))) ∧ (IntKind.i64.wrap (exp - (22 : Int))) < ((23 : Nat) : Int) ∧ ∃ x_2 : Nat, tF[(Int.toNat (IntKind.i64.wrap (exp - (22 : Int)))) * 1]? = some x_2 ∧ ∀ r : Nat, FRes .f64 f x_2 ((FloatKind.f64).format.mul f x_2) r → Jv2 22 r)
        (Jv2 exp f)) ∧
      ∀ exp2 : Int, ∀ f2 : Nat, Jv2 exp2 f2 →
      cnd ((FloatKind.f64).format.order f2 4831355200913801216 == some .gt)
       (R f2 false)
       (cnd ((FloatKind.f64).format.order f2 14054727237768577024 == some .lt)
        (R f2 false)
        (0 ≤ exp2 ∧ exp2 < ((23 : Nat) : Int) ∧ ∃ x_3 : Nat, tF[(Int.toNat exp2) * 1]? = some x_3 ∧ ∀ r2 : Nat, FRes .f64 f2 x_3 ((FloatKind.f64).format.mul f2 x_3) r2 → R r2 true)))
      (cnd (decide (exp < (0 : Int)))
       (cnd (decide (exp ≥ ((-22) : Int)))
        (0 ≤ (IntKind.i64.wrap (0 - exp)) ∧ (IntKind.i64.wrap (0 - exp)) < ((23 : Nat) : Int) ∧ ∃ x_4 : Nat, tF[(Int.toNat (IntKind.i64.wrap (0 - exp))) * 1]? = some x_4 ∧ ∀ r3 : Nat, FRes .f64 f x_4 ((FloatKind.f64).format.div f x_4) r3 → R r3 true)
        (Jv_2))
       (Jv_2)))
     (cnd (decide (exp < (0 : Int)))
      (cnd (decide (exp ≥ ((-22) : Int)))
       (0 ≤ (IntKind.i64.wrap (0 - exp)) ∧ (IntKind.i64.wrap (0 - exp)) < ((23 : Nat) : Int) ∧ ∃ x_5 : Nat, tF[(Int.toNat (IntKind.i64.wrap (0 - exp))) * 1]? = some x_5 ∧ ∀ r4 : Nat, FRes .f64 f x_5 ((FloatKind.f64).format.div f x_5) r4 → R r4 true)
       (Jv_2))
      (Jv_2)))) ∧
   (Jv_2 →
   R f false))
theorem ok89 {mantissa exp neg} {R : Nat → Bool → Prop} (T : T89 mantissa exp neg R) : Ok89 mantissa exp neg R := by
  intro h gl H
  have Y : Sy h [] h _ := Sy.startM H rfl
  apply calls89
  unfold S89
  unfold T89 at T
  refine ⟨_, (Y.glo 0 rfl).i0, ?_⟩
  obtain ⟨q_9, T⟩ := T
  refine ⟨q_9, ?_⟩
  refine cnd_imp T (fun T => ?_) (fun T => ?_)
  · exact ⟨_, _, Y.pick [] rfl, rfl, T⟩
  · obtain ⟨Jv, T0, T1⟩ := T
    obtain ⟨B, hB, _⟩ := Y.cut [] [0] rfl
    refine ⟨fun lz h' => ∃ (f : Nat), lz = [.float .f64 f] ∧ Sy h [] h' ([] ++ B) ∧ Jv f, ?_, ?_⟩
    · subst hB
      replace T := T0
      clear T0 T1
      refine cnd_imp T (fun T => ?_) (fun T => ?_)
      · exact ⟨_, rfl, Y.pick [0] rfl, T⟩
      · exact ⟨_, rfl, Y.pick [0] rfl, T⟩
    · subst hB
      clear T0 Y
      rintro f hv ⟨f, e, Y, T⟩
      cases e
      replace T := T1 f T
      have Y : Sy _ _ _ [_] := Y
      obtain ⟨Jv_2, T0, T1⟩ := T
      obtain ⟨B_2, hB_2, _⟩ := Y.cut [] [0] rfl
      intro K
      have hK : ∀  (hv3 : Heap), (Sy h [] hv3 ([] ++ B_2) ∧ Jv_2) → K hv3 := by
        subst hB_2
        clear T0 Y
        rintro hv3 ⟨Y, T⟩
        replace T := T1 T
        have Y : Sy _ _ _ [_] := Y
        unfold K
        exact ⟨_, _, Y.pick [] rfl, rfl, T⟩
      subst hB_2
      replace T := T0
      clear T0 T1
      refine cnd_imp T (fun T => ?_) (fun T => ?_)
      · exact ⟨_, _, Y.pick [] rfl, rfl, T⟩
      · refine cnd_imp T (fun T => ?_) (fun T => ?_)
        · refine cnd_imp T (fun T => ?_) (fun T => ?_)
          · obtain ⟨Jv2, T0, T1⟩ := T
            obtain ⟨B_3, hB_3, _⟩ := Y.cut [] [0] rfl
            refine ⟨fun lz h' => ∃ (exp2 : Int) (f2 : Nat), lz = [.int .i64 exp2, .float .f64 f2] ∧ Sy h [] h' ([] ++ B_3) ∧ Jv2 exp2 f2, ?_, ?_⟩
            · subst hB_3
              replace T := T0
              clear T0 T1
              refine cnd_imp T (fun T => ?_) (fun T => ?_)
              · refine ⟨_, _, _, (Y.glo 0 rfl).f0, ?_⟩
                obtain ⟨q, q_2, T⟩ := T
                refine ⟨_, _, rfl, q, q_2, ?_⟩
                obtain ⟨x_2, hx, T⟩ := T
                refine ⟨_, (Y.glo 0 rfl).f _ _ hx, ?_⟩
                intro r hq
                replace T := T r hq
                exact ⟨_, _, rfl, Y.pick [0] rfl, T⟩
              · exact ⟨_, _, rfl, Y.pick [0] rfl, T⟩
            · subst hB_3
              clear T0 Y
              rintro exp2 f2 hv2 ⟨exp2, f2, e, Y, T⟩
              cases e
              replace T := T1 exp2 f2 T
              have Y : Sy _ _ _ [_] := Y
              refine cnd_imp T (fun T => ?_) (fun T => ?_)
              · exact ⟨_, _, Y.pick [] rfl, rfl, T⟩
              · refine cnd_imp T (fun T => ?_) (fun T => ?_)
                · exact ⟨_, _, Y.pick [] rfl, rfl, T⟩
                · refine ⟨_, _, _, (Y.glo 0 rfl).f0, ?_⟩
                  obtain ⟨q_3, q_4, T⟩ := T
                  refine ⟨_, _, rfl, q_3, q_4, ?_⟩
                  obtain ⟨x_3, hx_2, T⟩ := T
                  refine ⟨_, (Y.glo 0 rfl).f _ _ hx_2, ?_⟩
                  intro r2 hq
                  replace T := T r2 hq
                  exact ⟨_, _, Y.pick [] rfl, rfl, T⟩
          · refine cnd_imp T (fun T => ?_) (fun T => ?_)
            · refine cnd_imp T (fun T => ?_) (fun T => ?_)
              · refine ⟨_, _, _, (Y.glo 0 rfl).f0, ?_⟩
                obtain ⟨q_5, q_6, T⟩ := T
                refine ⟨_, _, rfl, q_5, q_6, ?_⟩
                obtain ⟨x_4, hx_3, T⟩ := T
                refine ⟨_, (Y.glo 0 rfl).f _ _ hx_3, ?_⟩
                intro r3 hq
                replace T := T r3 hq
                exact ⟨_, _, Y.pick [] rfl, rfl, T⟩
              · exact hK _ ⟨Y.pick [0] rfl, T⟩
            · exact hK _ ⟨Y.pick [0] rfl, T⟩
        · refine cnd_imp T (fun T => ?_) (fun T => ?_)
          · refine cnd_imp T (fun T => ?_) (fun T => ?_)
            · refine ⟨_, _, _, (Y.glo 0 rfl).f0, ?_⟩
              obtain ⟨q_7, q_8, T⟩ := T
              refine ⟨_, _, rfl, q_7, q_8, ?_⟩
              obtain ⟨x_5, hx_4, T⟩ := T
              refine ⟨_, (Y.glo 0 rfl).f _ _ hx_4, ?_⟩
              intro r4 hq
              replace T := T r4 hq
              exact ⟨_, _, Y.pick [] rfl, rfl, T⟩
            · exact hK _ ⟨Y.pick [0] rfl, T⟩
          · exact hK _ ⟨Y.pick [0] rfl, T⟩
/-- internal/strconv.parseFloat64 -/
def S90 (d : Int) (p : Int) (sign : Int) (h : Heap) (R : Value → Heap → Prop) : Prop :=
  callX Tryz.prog 64 #[.int .u64 d] h [] fun v hv =>
  ∃ r : Int, v = .int .i64 r ∧
  callX Tryz.prog 97 #[.int .i64 p] hv [] fun v2 hv2 =>
  ∃ r2 : Int, v2 = .int .i64 r2 ∧
  let hv3 : Heap := hv2.push (.cells #[.int .u64 0, .int .u64 0, .int .i64 0] 136)
  callX Tryz.prog 96 #[.pointer (some (⟨hv2.size, 0, none⟩ : Addr)), .int .i64 (IntKind.i64.wrap ((if (IntKind.i64.wrap ((IntKind.i64.wrap ((53 : Int) - r)) - r2)) < (1074 : Int) then (IntKind.i64.wrap ((IntKind.i64.wrap ((53 : Int) - r)) - r2)) else (1074 : Int)) - (IntKind.i64.wrap ((64 : Int) - r)))), .int .i64 p, .int .i64 r2] hv3 [] fun v3 hv4 =>
  v3 = .tuple #[] ∧
  ∃ x : Int, hcell hv4 hv2.size (0 + 2) = some (.int .i64 x) ∧ cnd (decide (x ≥ (64 : Int)))
   (callE Tryz.prog 88 #[.int .u64 (bits .or .u64 sign (0 : Int))] fun v4 =>
   ∃ r3 : Nat, v4 = .float .f64 r3 ∧
   R (.tuple #[.float .f64 r3, .nilIface]) hv4)
   (0 ≤ (IntKind.i64.wrap ((64 : Int) - r)) ∧ callX Tryz.prog 98 #[.int .u64 (IntKind.u64.wrap (d * 2 ^ (min (Int.toNat (IntKind.i64.wrap ((64 : Int) - r))) 64))), .pointer (some (⟨hv2.size, 0, none⟩ : Addr))] hv4 [] fun v5 hv5 =>
   ∃ r4 : Int, v5 = .int .u64 r4 ∧
   callX Tryz.prog 105 #[.int .u64 9007199254740992] hv5 [] fun v6 hv6 =>
   ∃ r5 : Int, v6 = .int .u64 r5 ∧
   callX Tryz.prog 104 #[.bool (decide (r4 ≥ r5))] hv6 [] fun v7 hv7 =>
   ∃ r6 : Int, v7 = .int .i64 r6 ∧
   0 ≤ r6 ∧ callX Tryz.prog 102 #[.int .u64 (bits .or .u64 (Int.fdiv r4 (2 ^ (min (Int.toNat r6) 64))) (bits .and .u64 r4 (1 : Int)))] hv7 [] fun v8 hv8 =>
   ∃ r7 : Int, v8 = .int .u64 r7 ∧
   callX Tryz.prog 120 #[.int .u64 (bits .or .u64 sign r7), .int .i64 (IntKind.i64.wrap (0 - (IntKind.i64.wrap ((if (IntKind.i64.wrap ((IntKind.i64.wrap ((53 : Int) - r)) - r2)) < (1074 : Int) then (IntKind.i64.wrap ((IntKind.i64.wrap ((53 : Int) - r)) - r2)) else (1074 : Int)) - r6))))] hv8 [] fun v9 hv9 =>
   ∃ ra : Nat, ((v9 = .tuple #[.float .f64 ra, .nilIface] ∧
    R (.tuple #[.float .f64 ra, .nilIface]) hv9)
   ∨ ∃ (rbT : Nat) (rbI : Value), v9 = .tuple #[.float .f64 ra, .iface rbT rbI] ∧
    R (.tuple #[.float .f64 ra, .iface rbT rbI]) hv9))
theorem calls90 {h : Heap} {R : Value → Heap → Prop} (d : Int) (p : Int) (sign : Int) (H : S90 d p sign h R) : CallsH Tryz.prog 90 #[.int .u64 d, .int .i64 p, .int .u64 sign] h R := by
  have e : S90 d p sign h R = FX (envX [] 63) { loops := [], joins := [], blocks := [], draws := [] } Tryz.f90 (Tryz.f90.body.getD .skip) [.int .u64 d, .int .i64 p, .int .u64 sign] h R := by kernel_rfl
  exact calls_of_FX (envX_ok _ _) Tryz.func90 (by kernel_rfl) (by kernel_rfl) (by kernel_rfl) (e ▸ H)
/-- internal/strconv.parseFloat64 -/
def Ok90 (d : Int) (p : Int) (sign : Int) (R : Nat → Option Int → Prop) : Prop :=
  ∀ (h : Heap) (gl : GL), Hp h [Ck.glob gl] → CallsH Tryz.prog 90 #[.int .u64 d, .int .i64 p, .int .u64 sign] h fun v h' => ∃ (raV : Nat) (rbE : Option Int), Sy h [] h' [] ∧ v = .tuple #[.float .f64 raV, (errV 64 rbE)] ∧ R raV rbE
theorem Ok90.mono {d p sign} {R R' : Nat → Option Int → Prop} (H : Ok90 d p sign R) (kz : ∀ raV rbE, R raV rbE → R' raV rbE) : Ok90 d p sign R' :=
  fun h gl hp => (H h gl hp).mono fun _ _ ⟨raV, rbE, P, e, q⟩ => ⟨raV, rbE, P, e, kz _ _ q⟩
def T90 (d : Int) (p : Int) (sign : Int) (R : Nat → Option Int → Prop) : Prop :=
  Ok64 d (fun r =>
  Ok97 p (fun r2 =>
  Ok96 0 0 0 (IntKind.i64.wrap ((if (IntKind.i64.wrap ((IntKind.i64.wrap ((53 : Int) - r)) - r2)) < (1074 : Int) then (IntKind.i64.wrap ((IntKind.i64.wrap ((53 : Int) - r)) - r2)) else (1074 : Int)) - (IntKind.i64.wrap ((64 : Int) - r)))) p r2 (fun pmHiV2 pmLoV2 sV2 =>
  cnd (decide (sV2 ≥ (64 : Int)))
   (callE Tryz.prog 88 #[.int .u64 (bits .or .u64 sign (0 : Int))] fun v4 =>
   ∃ r3 : Nat, v4 = .float .f64 r3 ∧
   R r3 none)
   (0 ≤ (IntKind.i64.wrap ((64 : Int) - r)) ∧ Ok98 (IntKind.u64.wrap (d * 2 ^ (min (Int.toNat (IntKind.i64.wrap ((64 : Int) - r))) 64))) pmHiV2 pmLoV2 sV2 (fun r4 =>
   Ok105 9007199254740992 (fun r5 =>
   Ok104 (decide (r4 ≥ r5)) (fun r6 =>
   0 ≤ r6 ∧ Ok102 (bits .or .u64 (Int.fdiv r4 (2 ^ (min (Int.toNat r6) 64))) (bits .and .u64 r4 (1 : Int))) (fun r7 =>
   Ok120 (bits .or .u64 sign r7) (IntKind.i64.wrap (0 - (IntKind.i64.wrap ((if (IntKind.i64.wrap ((IntKind.i64.wrap ((53 : Int) - r)) - r2)) < (1074 : Int) then (IntKind.i64.wrap ((IntKind.i64.wrap ((53 : Int) - r)) - r2)) else (1074 : Int)) - r6)))) (fun ra rbE_2 =>
   (rbE_2 = none →
    R ra none) ∧
   ∀ c : Int, rbE_2 = some c →
   R ra (some c))))))))))
theorem ok90 {d p sign} {R : Nat → Option Int → Prop} (T : T90 d p sign R) : Ok90 d p sign R := by
  intro h gl H
  have Y : Sy h [] h _ := Sy.startM H rfl
  apply calls90
  unfold S90
  unfold T90 at T
  refine callX_sy (T _ (Hp.nil _)) (fun _ _ ⟨_, p, _⟩ => p.fr) alln ?_
  rintro v hv ⟨r, PP, rfl, T⟩
  have Y : Sy _ _ hv [_] := Y.gr PP.fr
  clear PP
  refine ⟨r, rfl, ?_⟩
  refine callX_sy (T _ (Hp.nil _)) (fun _ _ ⟨_, p, _⟩ => p.fr) alln ?_
  rintro v2 hv2 ⟨r2, PP, rfl, T⟩
  have Y : Sy _ _ hv2 [_] := Y.gr PP.fr
  clear PP
  refine ⟨r2, rfl, ?_⟩
  intro hv3
  have Y : Sy _ _ hv3 [_, _] := Y.newO _
  clear_value hv3
  refine callX_sy (T _ _ _ (Y.pick [0, 1] rfl).hp) (fun _ _ ⟨_, _, _, p, _⟩ => p.fr) alln ?_
  rintro v3 hv4 ⟨pmHiV2, pmLoV2, sV2, PP, rfl, T⟩
  have Y : Sy _ _ hv4 [_, _] := Y.call2 [1, 0] rfl (A := [_]) rfl rfl PP ⟨rfl, trivial⟩
  clear PP
  refine ⟨rfl, ?_⟩
  refine ⟨_, Y.cellO 0 rfl 2 rfl, ?_⟩
  refine cnd_imp T (fun T => ?_) (fun T => ?_)
  · obtain ⟨Rx, hx, T⟩ := T
    refine ⟨Rx, hx, fun v4 hv => ?_⟩
    obtain ⟨r3, rfl, T⟩ := T v4 hv
    refine ⟨r3, rfl, ?_⟩
    exact ⟨_, none, Y.pick [] rfl, rfl, T⟩
  · obtain ⟨q_2, T⟩ := T
    refine ⟨q_2, ?_⟩
    refine callX_sy (T _ _ _ ((Y.turn 0 rfl To.obvob).pick [0] rfl).hp) (fun _ _ ⟨_, p, _⟩ => p.fr) alln ?_
    rintro v5 hv5 ⟨r4, PP, rfl, T⟩
    have Y : Sy _ _ hv5 [_, _] := Y.gr PP.fr
    clear PP
    refine ⟨r4, rfl, ?_⟩
    refine callX_sy (T _ (Hp.nil _)) (fun _ _ ⟨_, p, _⟩ => p.fr) alln ?_
    rintro v6 hv6 ⟨r5, PP, rfl, T⟩
    have Y : Sy _ _ hv6 [_, _] := Y.gr PP.fr
    clear PP
    refine ⟨r5, rfl, ?_⟩
    refine callX_sy (T _ (Hp.nil _)) (fun _ _ ⟨_, p, _⟩ => p.fr) alln ?_
    rintro v7 hv7 ⟨r6, PP, rfl, T⟩
    have Y : Sy _ _ hv7 [_, _] := Y.gr PP.fr
    clear PP
    refine ⟨r6, rfl, ?_⟩
    obtain ⟨q, T⟩ := T
    refine ⟨q, ?_⟩
    refine callX_sy (T _ (Hp.nil _)) (fun _ _ ⟨_, p, _⟩ => p.fr) alln ?_
    rintro v8 hv8 ⟨r7, PP, rfl, T⟩
    have Y : Sy _ _ hv8 [_, _] := Y.gr PP.fr
    clear PP
    refine ⟨r7, rfl, ?_⟩
    refine callX_sy (T _ (Hp.nil _)) (fun _ _ ⟨_, _, p, _⟩ => p.fr) alln ?_
    rintro v9 hv9 ⟨ra, rbE_2, PP, rfl, T⟩
    have Y : Sy _ _ hv9 [_, _] := Y.gr PP.fr
    clear PP
    cases rbE_2
    · replace T := T.1 rfl
      refine ⟨ra, .inl ⟨rfl, ?_⟩⟩
      exact ⟨_, none, Y.pick [] rfl, rfl, T⟩
    · rename_i c
      replace T := T.2 c rfl
      refine ⟨ra, .inr ⟨64, .int .i64 c, rfl, ?_⟩⟩
      exact ⟨_, (some c), Y.pick [] rfl, rfl, T⟩
/-- internal/strconv.atof64 -/
def S55 (s : ByteArray) (h : Heap) (R : Value → Heap → Prop) : Prop :=
  callX Tryz.prog 78 #[.string s] h [] fun v hv =>
  ∃ ra : Nat, ∃ rb : Int, ∃ rc : Bool, v = .tuple #[.float .f64 ra, .int .i64 rb, .bool rc] ∧
  cnd rc
   (R (.tuple #[.float .f64 ra, .int .i64 rb, .nilIface]) hv)
   (callX Tryz.prog 79 #[.string s] hv [] fun v2 hv2 =>
   ∃ ra2 : Int, ∃ rb2 : Int, ∃ rc2 : Bool, ∃ rd : Bool, ∃ re : Bool, ∃ rf : Int, ∃ rg : Bool, v2 = .tuple #[.int .u64 ra2, .int .i64 rb2, .bool rc2, .bool rd, .bool re, .int .i64 rf, .bool rg] ∧
   cnd (!rg)
    (R (.tuple #[.float .f64 0, .int .i64 rf, .iface 64 (.int .i64 2)]) hv2)
    (cnd re
     (False)
     (let K4 := fun (hv11 : Heap) =>
      (False)
     ∃ x : Bool, hcell hv2 3 0 = some (.bool x) ∧ cnd x
      (callX Tryz.prog 87 #[.bool rc2] hv2 [] fun v3 hv3 =>
      ∃ r : Int, v3 = .int .u64 r ∧
      0 ≤ (63 : Int) ∧ cnd (ra2 == (0 : Int))
       (callE Tryz.prog 88 #[.int .u64 (bits .or .u64 (IntKind.u64.wrap (r * 2 ^ (min (Int.toNat (63 : Int)) 64))) (0 : Int))] fun v4 =>
       ∃ r2 : Nat, v4 = .float .f64 r2 ∧
       R (.tuple #[.float .f64 r2, .int .i64 rf, .nilIface]) hv3)
       (cnd (decide (rb2 > (310 : Int)))
        (callE Tryz.prog 88 #[.int .u64 (bits .or .u64 (IntKind.u64.wrap (r * 2 ^ (min (Int.toNat (63 : Int)) 64))) (9218868437227405312 : Int))] fun v5 =>
        ∃ r3 : Nat, v5 = .float .f64 r3 ∧
        R (.tuple #[.float .f64 r3, .int .i64 rf, .iface 64 (.int .i64 1)]) hv3)
        (cnd (decide (rb2 < ((-345) : Int)))
         (callE Tryz.prog 88 #[.int .u64 (bits .or .u64 (IntKind.u64.wrap (r * 2 ^ (min (Int.toNat (63 : Int)) 64))) (0 : Int))] fun v6 =>
         ∃ r4 : Nat, v6 = .float .f64 r4 ∧
         R (.tuple #[.float .f64 r4, .int .i64 rf, .nilIface]) hv3)
         (let K := fun (hv5 : Heap) =>
          (callX Tryz.prog 90 #[.int .u64 ra2, .int .i64 rb2, .int .u64 (IntKind.u64.wrap (r * 2 ^ (min (Int.toNat (63 : Int)) 64)))] hv5 [] fun v8 hv6 =>
          ∃ ra4 : Nat, ((v8 = .tuple #[.float .f64 ra4, .nilIface] ∧
           cnd (!rd)
            (R (.tuple #[.float .f64 ra4, .int .i64 rf, .nilIface]) hv6)
            (let K2 := fun (f1 : Nat) (hv8 : Heap) =>
             (cnd ((FloatKind.f64).format.order ra4 f1 == some .eq)
              (R (.tuple #[.float .f64 ra4, .int .i64 rf, .nilIface]) hv8)
              (K4 hv8))
            callX Tryz.prog 90 #[.int .u64 (IntKind.u64.wrap (ra2 + (1 : Int))), .int .i64 rb2, .int .u64 (IntKind.u64.wrap (r * 2 ^ (min (Int.toNat (63 : Int)) 64)))] hv6 [] fun v9 hv7 =>
            ∃ ra5 : Nat, ((v9 = .tuple #[.float .f64 ra5, .nilIface] ∧
             K2 ra5 hv7)
            ∨ ∃ (rbT2 : Nat) (rbI2 : Value), v9 = .tuple #[.float .f64 ra5, .iface rbT2 rbI2] ∧
             K2 ra5 hv7)))
          ∨ ∃ (rbT : Nat) (rbI : Value), v8 = .tuple #[.float .f64 ra4, .iface rbT rbI] ∧
           cnd (!rd)
            (R (.tuple #[.float .f64 ra4, .int .i64 rf, .iface rbT rbI]) hv6)
            (let K3 := fun (f1_2 : Nat) (hv10 : Heap) =>
             (cnd ((FloatKind.f64).format.order ra4 f1_2 == some .eq)
              (R (.tuple #[.float .f64 ra4, .int .i64 rf, .iface rbT rbI]) hv10)
              (K4 hv10))
            callX Tryz.prog 90 #[.int .u64 (IntKind.u64.wrap (ra2 + (1 : Int))), .int .i64 rb2, .int .u64 (IntKind.u64.wrap (r * 2 ^ (min (Int.toNat (63 : Int)) 64)))] hv6 [] fun v10 hv9 =>
            ∃ ra6 : Nat, ((v10 = .tuple #[.float .f64 ra6, .nilIface] ∧
             K3 ra6 hv9)
            ∨ ∃ (rbT3 : Nat) (rbI3 : Value), v10 = .tuple #[.float .f64 ra6, .iface rbT3 rbI3] ∧
             K3 ra6 hv9))))
         cnd (!rd)
          (callX Tryz.prog 89 #[.int .u64 ra2, .int .i64 rb2, .bool rc2] hv3 [] fun v7 hv4 =>
          ∃ ra3 : Nat, ∃ rb3 : Bool, v7 = .tuple #[.float .f64 ra3, .bool rb3] ∧
          cnd rb3
           (R (.tuple #[.float .f64 ra3, .int .i64 rf, .nilIface]) hv4)
           (K hv4))
          (K hv3)))))
      (K4 hv2))))
theorem calls55 {h : Heap} {R : Value → Heap → Prop} (s : ByteArray) (H : S55 s h R) : CallsH Tryz.prog 55 #[.string s] h R := by
  have e : S55 s h R = FX (envX [] 143) { loops := [], joins := [], blocks := [], draws := [], cut := [8, 28] } Tryz.f55 (Tryz.f55.body.getD .skip) [.string s] h R := by kernel_rfl
  exact calls_of_FX (envX_ok _ _) Tryz.func55 (by kernel_rfl) (by kernel_rfl) (by kernel_rfl) (e ▸ H)
/-- internal/strconv.atof64 -/
def Ok55 (s : ByteArray) (R : Nat → Int → Option Int → Prop) : Prop :=
  ∀ (h : Heap) (gl : GL), Hp h [Ck.glob gl] → CallsH Tryz.prog 55 #[.string s] h fun v h' => ∃ (raV : Nat) (rbV : Int) (rcE : Option Int), Sy h [] h' [] ∧ v = .tuple #[.float .f64 raV, .int .i64 rbV, (errV 64 rcE)] ∧ R raV rbV rcE
theorem Ok55.mono {s} {R R' : Nat → Int → Option Int → Prop} (H : Ok55 s R) (kz : ∀ raV rbV rcE, R raV rbV rcE → R' raV rbV rcE) : Ok55 s R' :=
  fun h gl hp => (H h gl hp).mono fun _ _ ⟨raV, rbV, rcE, P, e, q⟩ => ⟨raV, rbV, rcE, P, e, kz _ _ _ q⟩
def T55 (s : ByteArray) (R : Nat → Int → Option Int → Prop) : Prop :=
  Ok78 s (fun ra rb rc =>
  cnd rc
   (R ra rb none)
   (Ok79 s (fun ra2 rb2 rc2 rd re rf rg =>
   cnd (!rg)
    (R 0 rf (some 2))
    (cnd re
     (False)
     (∃ Jv : Prop,
     ( cnd true
      (Ok87 rc2 (fun r =>
      0 ≤ (63 : Int) ∧ cnd (ra2 == (0 : Int))
       (callE Tryz.prog 88 #[.int .u64 (bits .or .u64 (IntKind.u64.wrap (r * 2 ^ (min (Int.toNat (63 : Int)) 64))) (0 : Int))] fun v4 =>
       ∃ r2 : Nat, v4 = .float .f64 r2 ∧
       R r2 rf none)
       (cnd (decide (rb2 > (310 : Int)))
        (callE Tryz.prog 88 #[.int .u64 (bits .or .u64 (IntKind.u64.wrap (r * 2 ^ (min (Int.toNat (63 : Int)) 64))) (9218868437227405312 : Int))] fun v5 =>
        ∃ r3 : Nat, v5 = .float .f64 r3 ∧
        R r3 rf (some 1))
        (cnd (decide (rb2 < ((-345) : Int)))
         (callE Tryz.prog 88 #[.int .u64 (bits .or .u64 (IntKind.u64.wrap (r * 2 ^ (min (Int.toNat (63 : Int)) 64))) (0 : Int))] fun v6 =>
         ∃ r4 : Nat, v6 = .float .f64 r4 ∧
         R r4 rf none)
         (∃ Jv_2 : Prop,
         ( cnd (!rd)
           (Ok89 ra2 rb2 rc2 (fun ra3 rb3 =>
           cnd rb3
            (R ra3 rf none)
            (Jv_2)))
           (Jv_2)) ∧
         (Jv_2 →
         Ok90 ra2 rb2 (IntKind.u64.wrap (r * 2 ^ (min (Int.toNat (63 : Int)) 64))) (fun ra4 rbE =>
         (rbE = none →
          cnd (!rd)
           (R ra4 rf none)
           (∃ Jv_3 : Nat → Prop,
           ( Ok90 (IntKind.u64.wrap (ra2 + (1 : Int))) rb2 (IntKind.u64.wrap (r * 2 ^ (min (Int.toNat (63 : Int)) 64))) (fun ra5 rbE_2 =>
            (rbE_2 = none →
             Jv_3 ra5) ∧
            ∀ c_2 : Int, rbE_2 = some c_2 →
            Jv_3 ra5)) ∧
           ∀ f1 : Nat, Jv_3 f1 →
           cnd ((FloatKind.f64).format.order ra4 f1 == some .eq)
            (R ra4 rf none)
            (Jv))) ∧
         ∀ c : Int, rbE = some c →
         cnd (!rd)
          (R ra4 rf (some c))
          (∃ Jv_4 : Nat → Prop,
          ( Ok90 (IntKind.u64.wrap (ra2 + (1 : Int))) rb2 (IntKind.u64.wrap (r * 2 ^ (min (Int.toNat (63 : Int)) 64))) (fun ra6 rbE_3 =>
           (rbE_3 = none →
            Jv_4 ra6) ∧
           ∀ c_3 : Int, rbE_3 = some c_3 →
           Jv_4 ra6)) ∧
          ∀ f1_2 : Nat, Jv_4 f1_2 →
          cnd ((FloatKind.f64).format.order ra4 f1_2 == some .eq)
           (R ra4 rf (some c))
           (Jv)))))))))
      (Jv)) ∧
     (Jv →
     False))))))
theorem ok55 {s} {R : Nat → Int → Option Int → Prop} (T : T55 s R) : Ok55 s R := by
  intro h gl H
  have Y : Sy h [] h _ := Sy.startM H rfl
  apply calls55
  unfold S55
  unfold T55 at T
  refine callX_sy (T _ (Hp.nil _)) (fun _ _ ⟨_, _, _, p, _⟩ => p.fr) alln ?_
  rintro v hv ⟨ra, rb, rc, PP, rfl, T⟩
  have Y : Sy _ _ hv [_] := Y.gr PP.fr
  clear PP
  refine ⟨ra, rb, rc, rfl, ?_⟩
  refine cnd_imp T (fun T => ?_) (fun T => ?_)
  · exact ⟨_, _, none, Y.pick [] rfl, rfl, T⟩
  · refine callX_sy (T _ (Hp.nil _)) (fun _ _ ⟨_, _, _, _, _, _, _, p, _⟩ => p.fr) alln ?_
    rintro v2 hv2 ⟨ra2, rb2, rc2, rd, re, rf, rg, PP, rfl, T⟩
    have Y : Sy _ _ hv2 [_] := Y.gr PP.fr
    clear PP
    refine ⟨ra2, rb2, rc2, rd, re, rf, rg, rfl, ?_⟩
    refine cnd_imp T (fun T => ?_) (fun T => ?_)
    · exact ⟨_, _, (some 2), Y.pick [] rfl, rfl, T⟩
    · refine cnd_imp T (fun T => ?_) (fun T => ?_)
      · exact T.elim
      · obtain ⟨Jv, T0, T1⟩ := T
        obtain ⟨B, hB, _⟩ := Y.cut [] [0] rfl
        intro K4
        have hK4 : ∀  (hv11 : Heap), (Sy h [] hv11 ([] ++ B) ∧ Jv) → K4 hv11 := by
          subst hB
          clear T0 Y
          rintro hv11 ⟨Y, T⟩
          replace T := T1 T
          have Y : Sy _ _ _ [_] := Y
          unfold K4
          exact T.elim
        subst hB
        replace T := T0
        clear T0 T1
        refine ⟨_, (Y.glo 0 rfl).opt, ?_⟩
        refine cnd_imp T (fun T => ?_) (fun T => ?_)
        · refine callX_sy (T _ (Hp.nil _)) (fun _ _ ⟨_, p, _⟩ => p.fr) alln ?_
          rintro v3 hv3 ⟨r, PP, rfl, T⟩
          have Y : Sy _ _ hv3 [_] := Y.gr PP.fr
          clear PP
          refine ⟨r, rfl, ?_⟩
          obtain ⟨q, T⟩ := T
          refine ⟨q, ?_⟩
          refine cnd_imp T (fun T => ?_) (fun T => ?_)
          · obtain ⟨Rx, hx, T⟩ := T
            refine ⟨Rx, hx, fun v4 hv => ?_⟩
            obtain ⟨r2, rfl, T⟩ := T v4 hv
            refine ⟨r2, rfl, ?_⟩
            exact ⟨_, _, none, Y.pick [] rfl, rfl, T⟩
          · refine cnd_imp T (fun T => ?_) (fun T => ?_)
            · obtain ⟨Rx_2, hx_2, T⟩ := T
              refine ⟨Rx_2, hx_2, fun v5 hv => ?_⟩
              obtain ⟨r3, rfl, T⟩ := T v5 hv
              refine ⟨r3, rfl, ?_⟩
              exact ⟨_, _, (some 1), Y.pick [] rfl, rfl, T⟩
            · refine cnd_imp T (fun T => ?_) (fun T => ?_)
              · obtain ⟨Rx_3, hx_3, T⟩ := T
                refine ⟨Rx_3, hx_3, fun v6 hv => ?_⟩
                obtain ⟨r4, rfl, T⟩ := T v6 hv
                refine ⟨r4, rfl, ?_⟩
                exact ⟨_, _, none, Y.pick [] rfl, rfl, T⟩
              · obtain ⟨Jv_2, T0, T1⟩ := T
                obtain ⟨B_2, hB_2, _⟩ := Y.cut [] [0] rfl
                intro K
                have hK : ∀  (hv5 : Heap), (Sy h [] hv5 ([] ++ B_2) ∧ Jv_2) → K hv5 := by
                  subst hB_2
                  clear T0 Y
                  rintro hv5 ⟨Y, T⟩
                  replace T := T1 T
                  have Y : Sy _ _ _ [_] := Y
                  unfold K
                  refine callX_sy (T _ _ (Y.pick [0] rfl).hp) (fun _ _ ⟨_, _, p, _⟩ => p.fr) alln ?_
                  rintro v8 hv6 ⟨ra4, rbE, PP, rfl, T⟩
                  have Y : Sy _ _ hv6 [_] := Y.gr PP.fr
                  clear PP
                  cases rbE
                  · replace T := T.1 rfl
                    refine ⟨ra4, .inl ⟨rfl, ?_⟩⟩
                    refine cnd_imp T (fun T => ?_) (fun T => ?_)
                    · exact ⟨_, _, none, Y.pick [] rfl, rfl, T⟩
                    · obtain ⟨Jv_3, T0, T1⟩ := T
                      obtain ⟨B_3, hB_3, _⟩ := Y.cut [] [0] rfl
                      intro K2
                      have hK2 : ∀ (f1 : Nat) (hv8 : Heap), (Sy h [] hv8 ([] ++ B_3) ∧ Jv_3 f1) → K2 f1 hv8 := by
                        subst hB_3
                        clear T0 Y
                        rintro f1 hv8 ⟨Y, T⟩
                        replace T := T1 f1 T
                        have Y : Sy _ _ _ [_] := Y
                        unfold K2
                        refine cnd_imp T (fun T => ?_) (fun T => ?_)
                        · exact ⟨_, _, none, Y.pick [] rfl, rfl, T⟩
                        · exact hK4 _ ⟨Y.pick [0] rfl, T⟩
                      subst hB_3
                      replace T := T0
                      clear T0 T1
                      refine callX_sy (T _ _ (Y.pick [0] rfl).hp) (fun _ _ ⟨_, _, p, _⟩ => p.fr) alln ?_
                      rintro v9 hv7 ⟨ra5, rbE_2, PP, rfl, T⟩
                      have Y : Sy _ _ hv7 [_] := Y.gr PP.fr
                      clear PP
                      cases rbE_2
                      · replace T := T.1 rfl
                        refine ⟨ra5, .inl ⟨rfl, ?_⟩⟩
                        exact hK2 _ _ ⟨Y.pick [0] rfl, T⟩
                      · rename_i c_2
                        replace T := T.2 c_2 rfl
                        refine ⟨ra5, .inr ⟨64, .int .i64 c_2, rfl, ?_⟩⟩
                        exact hK2 _ _ ⟨Y.pick [0] rfl, T⟩
                  · rename_i c
                    replace T := T.2 c rfl
                    refine ⟨ra4, .inr ⟨64, .int .i64 c, rfl, ?_⟩⟩
                    refine cnd_imp T (fun T => ?_) (fun T => ?_)
                    · exact ⟨_, _, (some c), Y.pick [] rfl, rfl, T⟩
                    · obtain ⟨Jv_4, T0, T1⟩ := T
                      obtain ⟨B_4, hB_4, _⟩ := Y.cut [] [0] rfl
                      intro K3
                      have hK3 : ∀ (f1_2 : Nat) (hv10 : Heap), (Sy h [] hv10 ([] ++ B_4) ∧ Jv_4 f1_2) → K3 f1_2 hv10 := by
                        subst hB_4
                        clear T0 Y
                        rintro f1_2 hv10 ⟨Y, T⟩
                        replace T := T1 f1_2 T
                        have Y : Sy _ _ _ [_] := Y
                        unfold K3
                        refine cnd_imp T (fun T => ?_) (fun T => ?_)
                        · exact ⟨_, _, (some c), Y.pick [] rfl, rfl, T⟩
                        · exact hK4 _ ⟨Y.pick [0] rfl, T⟩
                      subst hB_4
                      replace T := T0
                      clear T0 T1
                      refine callX_sy (T _ _ (Y.pick [0] rfl).hp) (fun _ _ ⟨_, _, p, _⟩ => p.fr) alln ?_
                      rintro v10 hv9 ⟨ra6, rbE_3, PP, rfl, T⟩
                      have Y : Sy _ _ hv9 [_] := Y.gr PP.fr
                      clear PP
                      cases rbE_3
                      · replace T := T.1 rfl
                        refine ⟨ra6, .inl ⟨rfl, ?_⟩⟩
                        exact hK3 _ _ ⟨Y.pick [0] rfl, T⟩
                      · rename_i c_3
                        replace T := T.2 c_3 rfl
                        refine ⟨ra6, .inr ⟨64, .int .i64 c_3, rfl, ?_⟩⟩
                        exact hK3 _ _ ⟨Y.pick [0] rfl, T⟩
                subst hB_2
                replace T := T0
                clear T0 T1
                refine cnd_imp T (fun T => ?_) (fun T => ?_)
                · refine callX_sy (T _ _ (Y.pick [0] rfl).hp) (fun _ _ ⟨_, _, p, _⟩ => p.fr) alln ?_
                  rintro v7 hv4 ⟨ra3, rb3, PP, rfl, T⟩
                  have Y : Sy _ _ hv4 [_] := Y.gr PP.fr
                  clear PP
                  refine ⟨ra3, rb3, rfl, ?_⟩
                  refine cnd_imp T (fun T => ?_) (fun T => ?_)
                  · exact ⟨_, _, none, Y.pick [] rfl, rfl, T⟩
                  · exact hK _ ⟨Y.pick [0] rfl, T⟩
                · exact hK _ ⟨Y.pick [0] rfl, T⟩
        · exact hK4 _ ⟨Y.pick [0] rfl, T⟩
/-- internal/strconv.parseFloatPrefix -/
def S43 (s : ByteArray) (bitSize : Int) (h : Heap) (R : Value → Heap → Prop) : Prop :=
  cnd (bitSize == (32 : Int))
   (callX Tryz.prog 54 #[.string s] h [] fun v hv =>
   ∃ ra : Nat, ∃ rb : Int, ((v = .tuple #[.float .f32 ra, .int .i64 rb, .nilIface] ∧
    False)
   ∨ ∃ (rcT : Nat) (rcI : Value), v = .tuple #[.float .f32 ra, .int .i64 rb, .iface rcT rcI] ∧
    False))
   (callX Tryz.prog 55 #[.string s] h [] fun v2 hv2 =>
   ∃ ra2 : Nat, ∃ rb2 : Int, ((v2 = .tuple #[.float .f64 ra2, .int .i64 rb2, .nilIface] ∧
    R (.tuple #[.float .f64 ra2, .int .i64 rb2, .nilIface]) hv2)
   ∨ ∃ (rcT2 : Nat) (rcI2 : Value), v2 = .tuple #[.float .f64 ra2, .int .i64 rb2, .iface rcT2 rcI2] ∧
    R (.tuple #[.float .f64 ra2, .int .i64 rb2, .iface rcT2 rcI2]) hv2))
theorem calls43 {h : Heap} {R : Value → Heap → Prop} (s : ByteArray) (bitSize : Int) (H : S43 s bitSize h R) : CallsH Tryz.prog 43 #[.string s, .int .i64 bitSize] h R := by
  have e : S43 s bitSize h R = FX (envX [] 27) { loops := [], joins := [], blocks := [], draws := [] } Tryz.f43 (Tryz.f43.body.getD .skip) [.string s, .int .i64 bitSize] h R := by kernel_rfl
  exact calls_of_FX (envX_ok _ _) Tryz.func43 (by kernel_rfl) (by kernel_rfl) (by kernel_rfl) (e ▸ H)
/-- internal/strconv.parseFloatPrefix -/
def Ok43 (s : ByteArray) (bitSize : Int) (R : Nat → Int → Option Int → Prop) : Prop :=
  ∀ (h : Heap) (gl : GL), Hp h [Ck.glob gl] → CallsH Tryz.prog 43 #[.string s, .int .i64 bitSize] h fun v h' => ∃ (raV : Nat) (rbV : Int) (rcE : Option Int), Sy h [] h' [] ∧ v = .tuple #[.float .f64 raV, .int .i64 rbV, (errV 64 rcE)] ∧ R raV rbV rcE
theorem Ok43.mono {s bitSize} {R R' : Nat → Int → Option Int → Prop} (H : Ok43 s bitSize R) (kz : ∀ raV rbV rcE, R raV rbV rcE → R' raV rbV rcE) : Ok43 s bitSize R' :=
  fun h gl hp => (H h gl hp).mono fun _ _ ⟨raV, rbV, rcE, P, e, q⟩ => ⟨raV, rbV, rcE, P, e, kz _ _ _ q⟩
def T43 (s : ByteArray) (bitSize : Int) (R : Nat → Int → Option Int → Prop) : Prop :=
  cnd (bitSize == (32 : Int))
   (False)
   (Ok55 s (fun ra2 rb2 rcE_2 =>
   (rcE_2 = none →
    R ra2 rb2 none) ∧
   ∀ c : Int, rcE_2 = some c →
   R ra2 rb2 (some c)))
theorem ok43 {s bitSize} {R : Nat → Int → Option Int → Prop} (T : T43 s bitSize R) : Ok43 s bitSize R := by
  intro h gl H
  have Y : Sy h [] h _ := Sy.startM H rfl
  apply calls43
  unfold S43
  unfold T43 at T
  refine cnd_imp T (fun T => ?_) (fun T => ?_)
  · exact T.elim
  · refine callX_sy (T _ _ (Y.pick [0] rfl).hp) (fun _ _ ⟨_, _, _, p, _⟩ => p.fr) alln ?_
    rintro v2 hv2 ⟨ra2, rb2, rcE_2, PP, rfl, T⟩
    have Y : Sy _ _ hv2 [_] := Y.gr PP.fr
    clear PP
    cases rcE_2
    · replace T := T.1 rfl
      refine ⟨ra2, rb2, .inl ⟨rfl, ?_⟩⟩
      exact ⟨_, _, none, Y.pick [] rfl, rfl, T⟩
    · rename_i c
      replace T := T.2 c rfl
      refine ⟨ra2, rb2, .inr ⟨64, .int .i64 c, rfl, ?_⟩⟩
      exact ⟨_, _, (some c), Y.pick [] rfl, rfl, T⟩
/-- internal/strconv.ParseFloat -/
def S37 (s : ByteArray) (bitSize : Int) (h : Heap) (R : Value → Heap → Prop) : Prop :=
  callX Tryz.prog 43 #[.string s, .int .i64 bitSize] h [] fun v hv =>
  ∃ ra : Nat, ∃ rb : Int, ((v = .tuple #[.float .f64 ra, .int .i64 rb, .nilIface] ∧
   cnd (rb != ((s.size : Nat) : Int))
    (R (.tuple #[.float .f64 0, .iface 64 (.int .i64 2)]) hv)
    (R (.tuple #[.float .f64 ra, .nilIface]) hv))
  ∨ ∃ (rcT : Nat) (rcI : Value), v = .tuple #[.float .f64 ra, .int .i64 rb, .iface rcT rcI] ∧
   cnd (rb != ((s.size : Nat) : Int))
    (R (.tuple #[.float .f64 0, .iface 64 (.int .i64 2)]) hv)
    (R (.tuple #[.float .f64 ra, .iface rcT rcI]) hv))
theorem calls37 {h : Heap} {R : Value → Heap → Prop} (s : ByteArray) (bitSize : Int) (H : S37 s bitSize h R) : CallsH Tryz.prog 37 #[.string s, .int .i64 bitSize] h R := by
  have e : S37 s bitSize h R = FX (envX [] 23) { loops := [], joins := [], blocks := [], draws := [] } Tryz.f37 (Tryz.f37.body.getD .skip) [.string s, .int .i64 bitSize] h R := by kernel_rfl
  exact calls_of_FX (envX_ok _ _) Tryz.func37 (by kernel_rfl) (by kernel_rfl) (by kernel_rfl) (e ▸ H)
/-- internal/strconv.ParseFloat -/
def Ok37 (s : ByteArray) (bitSize : Int) (R : Nat → Option Int → Prop) : Prop :=
  ∀ (h : Heap) (gl : GL), Hp h [Ck.glob gl] → CallsH Tryz.prog 37 #[.string s, .int .i64 bitSize] h fun v h' => ∃ (raV : Nat) (rbE : Option Int), Sy h [] h' [] ∧ v = .tuple #[.float .f64 raV, (errV 64 rbE)] ∧ R raV rbE
theorem Ok37.mono {s bitSize} {R R' : Nat → Option Int → Prop} (H : Ok37 s bitSize R) (kz : ∀ raV rbE, R raV rbE → R' raV rbE) : Ok37 s bitSize R' :=
  fun h gl hp => (H h gl hp).mono fun _ _ ⟨raV, rbE, P, e, q⟩ => ⟨raV, rbE, P, e, kz _ _ q⟩
def T37 (s : ByteArray) (bitSize : Int) (R : Nat → Option Int → Prop) : Prop :=
  Ok43 s bitSize (fun ra rb rcE =>
  (rcE = none →
   cnd (rb != ((s.size : Nat) : Int))
    (R 0 (some 2))
    (R ra none)) ∧
  ∀ c : Int, rcE = some c →
  cnd (rb != ((s.size : Nat) : Int))
   (R 0 (some 2))
   (R ra (some c)))
theorem ok37 {s bitSize} {R : Nat → Option Int → Prop} (T : T37 s bitSize R) : Ok37 s bitSize R := by
  intro h gl H
  have Y : Sy h [] h _ := Sy.startM H rfl
  apply calls37
  unfold S37
  unfold T37 at T
  refine callX_sy (T _ _ (Y.pick [0] rfl).hp) (fun _ _ ⟨_, _, _, p, _⟩ => p.fr) alln ?_
  rintro v hv ⟨ra, rb, rcE, PP, rfl, T⟩
  have Y : Sy _ _ hv [_] := Y.gr PP.fr
  clear PP
  cases rcE
  · replace T := T.1 rfl
    refine ⟨ra, rb, .inl ⟨rfl, ?_⟩⟩
    refine cnd_imp T (fun T => ?_) (fun T => ?_)
    · exact ⟨_, (some 2), Y.pick [] rfl, rfl, T⟩
    · exact ⟨_, none, Y.pick [] rfl, rfl, T⟩
  · rename_i c
    replace T := T.2 c rfl
    refine ⟨ra, rb, .inr ⟨64, .int .i64 c, rfl, ?_⟩⟩
    refine cnd_imp T (fun T => ?_) (fun T => ?_)
    · exact ⟨_, (some 2), Y.pick [] rfl, rfl, T⟩
    · exact ⟨_, (some c), Y.pick [] rfl, rfl, T⟩
end Go.Proofs.YtfjflbapojgbhaaGreatDoor.N
