/- Functions: what is left to be shown of each, over memory and without: printed by program, tied to the loaded functions by the kernel. Conditions: none. -/
import Derived.Test.YtfjflbapojgbhaaGreatDoorWEnv
import Derived.Test.YtfjflbapojgbhaaGreatDoorYTwo
import Derived.Test.YtfjflbapojgbhaaGreatDoorYGl
import Derived.Test.YtfjflbapojgbhaaGreatDoorTPar
namespace Go.Proofs.YtfjflbapojgbhaaGreatDoor.N
open Go.Proofs.YtfjflbapojgbhaaGreatDoor
open Go.X
set_option maxRecDepth 100000
set_option linter.unusedVariables false
set_option linter.unusedSimpArgs false
set_option maxHeartbeats 2000000

/-- tracery/traceryref1.Bits -/
def S12 (a : Nat) (b : Nat) (h : Heap) (R : Value → Heap → Prop) : Prop :=
  callE Tryz.prog 32 #[.float .f64 a] fun v =>
  ∃ r : Int, v = .int .u64 r ∧
  callE Tryz.prog 32 #[.float .f64 b] fun v2 =>
  ∃ r2 : Int, v2 = .int .u64 r2 ∧
  R (.bool (r == r2)) h
theorem calls12 {h : Heap} {R : Value → Heap → Prop} (a : Nat) (b : Nat) (H : S12 a b h R) : CallsH Tryz.prog 12 #[.float .f64 a, .float .f64 b] h R := by
  have e : S12 a b h R = FX (envX [] 10) { loops := [], joins := [], blocks := [], draws := [] } Tryz.f12 (Tryz.f12.body.getD .skip) [.float .f64 a, .float .f64 b] h R := by kernel_rfl
  exact calls_of_FX (envX_ok _ _) Tryz.func12 (by kernel_rfl) (by kernel_rfl) (by kernel_rfl) (e ▸ H)
/-- tracery/traceryref1.Bits -/
def Ok12 (a : Nat) (b : Nat) (R : Bool → Prop) : Prop :=
  ∀ (h : Heap), Hp h [] → CallsH Tryz.prog 12 #[.float .f64 a, .float .f64 b] h fun v h' => ∃ (rV : Bool), Sy h [] h' [] ∧ v = .bool rV ∧ R rV
theorem Ok12.mono {a b} {R R' : Bool → Prop} (H : Ok12 a b R) (kz : ∀ rV, R rV → R' rV) : Ok12 a b R' :=
  fun h  hp => (H h  hp).mono fun _ _ ⟨rV, P, e, q⟩ => ⟨rV, P, e, kz _ q⟩
def T12 (a : Nat) (b : Nat) (R : Bool → Prop) : Prop :=
  callE Tryz.prog 32 #[.float .f64 a] fun v =>
  ∃ r : Int, v = .int .u64 r ∧
  callE Tryz.prog 32 #[.float .f64 b] fun v2 =>
  ∃ r2 : Int, v2 = .int .u64 r2 ∧
  R (r == r2)
theorem ok12 {a b} {R : Bool → Prop} (T : T12 a b R) : Ok12 a b R := by
  intro h  H
  have Y : Sy h [] h _ := Sy.startM H rfl
  apply calls12
  unfold S12
  unfold T12 at T
  obtain ⟨Rx_2, hx_2, T⟩ := T
  refine ⟨Rx_2, hx_2, fun v hv => ?_⟩
  obtain ⟨r, rfl, T⟩ := T v hv
  refine ⟨r, rfl, ?_⟩
  obtain ⟨Rx, hx, T⟩ := T
  refine ⟨Rx, hx, fun v2 hv => ?_⟩
  obtain ⟨r2, rfl, T⟩ := T v2 hv
  refine ⟨r2, rfl, ?_⟩
  exact ⟨_, Y.pick [] rfl, rfl, T⟩
/-- tracery/weigh.Less -/
def S14 (a : Nat) (b : Nat) (h : Heap) (R : Value → Heap → Prop) : Prop :=
  cnd ((FloatKind.f64).format.order a a != some .eq)
   (R (.bool ((FloatKind.f64).format.order a a == some .eq)) h)
   (cnd ((FloatKind.f64).format.order b b != some .eq)
    (R (.bool ((FloatKind.f64).format.order a a == some .eq)) h)
    (R (.bool ((FloatKind.f64).format.order a b == some .lt)) h))
theorem calls14 {h : Heap} {R : Value → Heap → Prop} (a : Nat) (b : Nat) (H : S14 a b h R) : CallsH Tryz.prog 14 #[.float .f64 a, .float .f64 b] h R := by
  have e : S14 a b h R = FX (envX [] 19) { loops := [], joins := [], blocks := [], draws := [] } Tryz.f14 (Tryz.f14.body.getD .skip) [.float .f64 a, .float .f64 b] h R := by kernel_rfl
  exact calls_of_FX (envX_ok _ _) Tryz.func14 (by kernel_rfl) (by kernel_rfl) (by kernel_rfl) (e ▸ H)
/-- tracery/weigh.Less -/
def Ok14 (a : Nat) (b : Nat) (R : Bool → Prop) : Prop :=
  ∀ (h : Heap), Hp h [] → CallsH Tryz.prog 14 #[.float .f64 a, .float .f64 b] h fun v h' => ∃ (rV : Bool), Sy h [] h' [] ∧ v = .bool rV ∧ R rV
theorem Ok14.mono {a b} {R R' : Bool → Prop} (H : Ok14 a b R) (kz : ∀ rV, R rV → R' rV) : Ok14 a b R' :=
  fun h  hp => (H h  hp).mono fun _ _ ⟨rV, P, e, q⟩ => ⟨rV, P, e, kz _ q⟩
def T14 (a : Nat) (b : Nat) (R : Bool → Prop) : Prop :=
  cnd ((FloatKind.f64).format.order a a != some .eq)
   (R ((FloatKind.f64).format.order a a == some .eq))
   (cnd ((FloatKind.f64).format.order b b != some .eq)
    (R ((FloatKind.f64).format.order a a == some .eq))
    (R ((FloatKind.f64).format.order a b == some .lt)))
theorem ok14 {a b} {R : Bool → Prop} (T : T14 a b R) : Ok14 a b R := by
  intro h  H
  have Y : Sy h [] h _ := Sy.startM H rfl
  apply calls14
  unfold S14
  unfold T14 at T
  refine cnd_imp T (fun T => ?_) (fun T => ?_)
  · exact ⟨_, Y.pick [] rfl, rfl, T⟩
  · refine cnd_imp T (fun T => ?_) (fun T => ?_)
    · exact ⟨_, Y.pick [] rfl, rfl, T⟩
    · exact ⟨_, Y.pick [] rfl, rfl, T⟩
/-- tracery/traceryref1.NaN -/
def S30  (h : Heap) (R : Value → Heap → Prop) : Prop :=
  callE Tryz.prog 13 #[.int .u64 9221120237041090561] fun v =>
  ∃ r : Nat, v = .float .f64 r ∧
  R (.float .f64 r) h
theorem calls30 {h : Heap} {R : Value → Heap → Prop}  (H : S30  h R) : CallsH Tryz.prog 30 #[] h R := by
  have e : S30  h R = FX (envX [] 2) { loops := [], joins := [], blocks := [], draws := [] } Tryz.f30 (Tryz.f30.body.getD .skip) [] h R := by kernel_rfl
  exact calls_of_FX (envX_ok _ _) Tryz.func30 (by kernel_rfl) (by kernel_rfl) (by kernel_rfl) (e ▸ H)
/-- tracery/traceryref1.NaN -/
def Ok30  (R : Nat → Prop) : Prop :=
  ∀ (h : Heap), Hp h [] → CallsH Tryz.prog 30 #[] h fun v h' => ∃ (rV : Nat), Sy h [] h' [] ∧ v = .float .f64 rV ∧ R rV
theorem Ok30.mono {R R' : Nat → Prop} (H : Ok30  R) (kz : ∀ rV, R rV → R' rV) : Ok30  R' :=
  fun h  hp => (H h  hp).mono fun _ _ ⟨rV, P, e, q⟩ => ⟨rV, P, e, kz _ q⟩
def T30  (R : Nat → Prop) : Prop :=
  callE Tryz.prog 13 #[.int .u64 9221120237041090561] fun v =>
  ∃ r : Nat, v = .float .f64 r ∧
  R r
theorem ok30 {R : Nat → Prop} (T : T30  R) : Ok30  R := by
  intro h  H
  have Y : Sy h [] h _ := Sy.startM H rfl
  apply calls30
  unfold S30
  unfold T30 at T
  obtain ⟨Rx, hx, T⟩ := T
  refine ⟨Rx, hx, fun v hv => ?_⟩
  obtain ⟨r, rfl, T⟩ := T v hv
  refine ⟨r, rfl, ?_⟩
  exact ⟨_, Y.pick [] rfl, rfl, T⟩
/-- math.Abs -/
def S39 (x : Nat) (h : Heap) (R : Value → Heap → Prop) : Prop :=
  callE Tryz.prog 32 #[.float .f64 x] fun v =>
  ∃ r : Int, v = .int .u64 r ∧
  callE Tryz.prog 13 #[.int .u64 (bits .andNot .u64 r (9223372036854775808 : Int))] fun v2 =>
  ∃ r2 : Nat, v2 = .float .f64 r2 ∧
  R (.float .f64 r2) h
theorem calls39 {h : Heap} {R : Value → Heap → Prop} (x : Nat) (H : S39 x h R) : CallsH Tryz.prog 39 #[.float .f64 x] h R := by
  have e : S39 x h R = FX (envX [] 7) { loops := [], joins := [], blocks := [], draws := [] } Tryz.f39 (Tryz.f39.body.getD .skip) [.float .f64 x] h R := by kernel_rfl
  exact calls_of_FX (envX_ok _ _) Tryz.func39 (by kernel_rfl) (by kernel_rfl) (by kernel_rfl) (e ▸ H)
/-- math.Abs -/
def Ok39 (x : Nat) (R : Nat → Prop) : Prop :=
  ∀ (h : Heap), Hp h [] → CallsH Tryz.prog 39 #[.float .f64 x] h fun v h' => ∃ (rV : Nat), Sy h [] h' [] ∧ v = .float .f64 rV ∧ R rV
theorem Ok39.mono {x} {R R' : Nat → Prop} (H : Ok39 x R) (kz : ∀ rV, R rV → R' rV) : Ok39 x R' :=
  fun h  hp => (H h  hp).mono fun _ _ ⟨rV, P, e, q⟩ => ⟨rV, P, e, kz _ q⟩
def T39 (x : Nat) (R : Nat → Prop) : Prop :=
  callE Tryz.prog 32 #[.float .f64 x] fun v =>
  ∃ r : Int, v = .int .u64 r ∧
  callE Tryz.prog 13 #[.int .u64 (bits .andNot .u64 r (9223372036854775808 : Int))] fun v2 =>
  ∃ r2 : Nat, v2 = .float .f64 r2 ∧
  R r2
theorem ok39 {x} {R : Nat → Prop} (T : T39 x R) : Ok39 x R := by
  intro h  H
  have Y : Sy h [] h _ := Sy.startM H rfl
  apply calls39
  unfold S39
  unfold T39 at T
  obtain ⟨Rx_2, hx_2, T⟩ := T
  refine ⟨Rx_2, hx_2, fun v hv => ?_⟩
  obtain ⟨r, rfl, T⟩ := T v hv
  refine ⟨r, rfl, ?_⟩
  obtain ⟨Rx, hx, T⟩ := T
  refine ⟨Rx, hx, fun v2 hv => ?_⟩
  obtain ⟨r2, rfl, T⟩ := T v2 hv
  refine ⟨r2, rfl, ?_⟩
  exact ⟨_, Y.pick [] rfl, rfl, T⟩
/-- math.Inf -/
def S26 (sign : Int) (h : Heap) (R : Value → Heap → Prop) : Prop :=
  ∃ Jv : List Value → Heap → Prop,
  ( cnd (decide (sign ≥ (0 : Int)))
   (Jv [.int .u64 9218868437227405312] h)
   (Jv [.int .u64 18442240474082181120] h)) ∧
  ∀ v : Int, ∀ hv, Jv [.int .u64 v] hv →
  callE Tryz.prog 13 #[.int .u64 v] fun v2 =>
  ∃ r : Nat, v2 = .float .f64 r ∧
  R (.float .f64 r) hv
theorem calls26 {h : Heap} {R : Value → Heap → Prop} (sign : Int) (H : S26 sign h R) : CallsH Tryz.prog 26 #[.int .i64 sign] h R := by
  have e : S26 sign h R = FX (envX [] 8) { loops := [], joins := [(5, ⟨[], [3], [], []⟩)], blocks := [], draws := [] } Tryz.f26 (Tryz.f26.body.getD .skip) [.int .i64 sign] h R := by kernel_rfl
  exact calls_of_FX (envX_ok _ _) Tryz.func26 (by kernel_rfl) (by kernel_rfl) (by kernel_rfl) (e ▸ H)
/-- math.Inf -/
def Ok26 (sign : Int) (R : Nat → Prop) : Prop :=
  ∀ (h : Heap), Hp h [] → CallsH Tryz.prog 26 #[.int .i64 sign] h fun v h' => ∃ (rV : Nat), Sy h [] h' [] ∧ v = .float .f64 rV ∧ R rV
theorem Ok26.mono {sign} {R R' : Nat → Prop} (H : Ok26 sign R) (kz : ∀ rV, R rV → R' rV) : Ok26 sign R' :=
  fun h  hp => (H h  hp).mono fun _ _ ⟨rV, P, e, q⟩ => ⟨rV, P, e, kz _ q⟩
def T26 (sign : Int) (R : Nat → Prop) : Prop :=
  ∃ Jv : Int → Prop,
  ( cnd (decide (sign ≥ (0 : Int)))
   (Jv 9218868437227405312)
   (Jv 18442240474082181120)) ∧
  ∀ v : Int, Jv v →
  callE Tryz.prog 13 #[.int .u64 v] fun v2 =>
  ∃ r : Nat, v2 = .float .f64 r ∧
  R r
theorem ok26 {sign} {R : Nat → Prop} (T : T26 sign R) : Ok26 sign R := by
  intro h  H
  have Y : Sy h [] h _ := Sy.startM H rfl
  apply calls26
  unfold S26
  unfold T26 at T
  obtain ⟨Jv, T0, T1⟩ := T
  obtain ⟨B, hB, _⟩ := Y.cut [] [] rfl
  refine ⟨fun lz h' => ∃ (v : Int), lz = [.int .u64 v] ∧ Sy h [] h' ([] ++ B) ∧ Jv v, ?_, ?_⟩
  · subst hB
    replace T := T0
    clear T0 T1
    refine cnd_imp T (fun T => ?_) (fun T => ?_)
    · exact ⟨_, rfl, Y.pick [] rfl, T⟩
    · exact ⟨_, rfl, Y.pick [] rfl, T⟩
  · subst hB
    clear T0 Y
    rintro v hv ⟨v, e, Y, T⟩
    cases e
    replace T := T1 v T
    have Y : Sy _ _ _ [] := Y
    obtain ⟨Rx, hx, T⟩ := T
    refine ⟨Rx, hx, fun v2 hv => ?_⟩
    obtain ⟨r, rfl, T⟩ := T v2 hv
    refine ⟨r, rfl, ?_⟩
    exact ⟨_, Y.pick [] rfl, rfl, T⟩
/-- math.IsInf -/
def S29 (f : Nat) (sign : Int) (h : Heap) (R : Value → Heap → Prop) : Prop :=
  ∃ Jv : List Value → Heap → Prop,
  ( cnd (sign == (0 : Int))
   (callX Tryz.prog 39 #[.float .f64 f] h [] fun v hv =>
   ∃ r : Nat, v = .float .f64 r ∧
   Jv [.float .f64 r] hv)
   (∃ Jv2 : List Value → Heap → Prop,
   ( cnd (decide (sign < (0 : Int)))
     (Jv2 [.float .f64 (Op.negFloat .f64 f)] h)
     (Jv2 [.float .f64 f] h)) ∧
   ∀ f2 : Nat, ∀ hv2, Jv2 [.float .f64 f2] hv2 →
   Jv [.float .f64 f2] hv2)) ∧
  ∀ f3 : Nat, ∀ hv3, Jv [.float .f64 f3] hv3 →
  R (.bool ((FloatKind.f64).format.order f3 9218868437227405311 == some .gt)) hv3
theorem calls29 {h : Heap} {R : Value → Heap → Prop} (f : Nat) (sign : Int) (H : S29 f sign h R) : CallsH Tryz.prog 29 #[.float .f64 f, .int .i64 sign] h R := by
  have e : S29 f sign h R = FX (envX [] 15) { loops := [], joins := [(6, ⟨[], [0], [], []⟩), (10, ⟨[], [0], [], []⟩)], blocks := [], draws := [] } Tryz.f29 (Tryz.f29.body.getD .skip) [.float .f64 f, .int .i64 sign] h R := by kernel_rfl
  exact calls_of_FX (envX_ok _ _) Tryz.func29 (by kernel_rfl) (by kernel_rfl) (by kernel_rfl) (e ▸ H)
/-- math.IsInf -/
def Ok29 (f : Nat) (sign : Int) (R : Bool → Prop) : Prop :=
  ∀ (h : Heap), Hp h [] → CallsH Tryz.prog 29 #[.float .f64 f, .int .i64 sign] h fun v h' => ∃ (rV : Bool), Sy h [] h' [] ∧ v = .bool rV ∧ R rV
theorem Ok29.mono {f sign} {R R' : Bool → Prop} (H : Ok29 f sign R) (kz : ∀ rV, R rV → R' rV) : Ok29 f sign R' :=
  fun h  hp => (H h  hp).mono fun _ _ ⟨rV, P, e, q⟩ => ⟨rV, P, e, kz _ q⟩
def T29 (f : Nat) (sign : Int) (R : Bool → Prop) : Prop :=
  ∃ Jv : Nat → Prop,
  ( cnd (sign == (0 : Int))
   (Ok39 f (fun r =>
   Jv r))
   (∃ Jv2 : Nat → Prop,
   ( cnd (decide (sign < (0 : Int)))
     (Jv2 (Op.negFloat .f64 f))
     (Jv2 f)) ∧
   ∀ f2 : Nat, Jv2 f2 →
   Jv f2)) ∧
  ∀ f3 : Nat, Jv f3 →
  R ((FloatKind.f64).format.order f3 9218868437227405311 == some .gt)
theorem ok29 {f sign} {R : Bool → Prop} (T : T29 f sign R) : Ok29 f sign R := by
  intro h  H
  have Y : Sy h [] h _ := Sy.startM H rfl
  apply calls29
  unfold S29
  unfold T29 at T
  obtain ⟨Jv, T0, T1⟩ := T
  obtain ⟨B, hB, _⟩ := Y.cut [] [] rfl
  refine ⟨fun lz h' => ∃ (f3 : Nat), lz = [.float .f64 f3] ∧ Sy h [] h' ([] ++ B) ∧ Jv f3, ?_, ?_⟩
  · subst hB
    replace T := T0
    clear T0 T1
    refine cnd_imp T (fun T => ?_) (fun T => ?_)
    · refine callX_sy (T _ (Hp.nil _)) (fun _ _ ⟨_, p, _⟩ => p.fr) alln ?_
      rintro v hv ⟨r, PP, rfl, T⟩
      have Y : Sy _ _ hv [] := Y.gr PP.fr
      clear PP
      refine ⟨r, rfl, ?_⟩
      exact ⟨_, rfl, Y.pick [] rfl, T⟩
    · obtain ⟨Jv2, T0, T1⟩ := T
      obtain ⟨B_2, hB_2, _⟩ := Y.cut [] [] rfl
      refine ⟨fun lz h' => ∃ (f2 : Nat), lz = [.float .f64 f2] ∧ Sy h [] h' ([] ++ B_2) ∧ Jv2 f2, ?_, ?_⟩
      · subst hB_2
        replace T := T0
        clear T0 T1
        refine cnd_imp T (fun T => ?_) (fun T => ?_)
        · exact ⟨_, rfl, Y.pick [] rfl, T⟩
        · exact ⟨_, rfl, Y.pick [] rfl, T⟩
      · subst hB_2
        clear T0 Y
        rintro f2 hv2 ⟨f2, e, Y, T⟩
        cases e
        replace T := T1 f2 T
        have Y : Sy _ _ _ [] := Y
        exact ⟨_, rfl, Y.pick [] rfl, T⟩
  · subst hB
    clear T0 Y
    rintro f3 hv3 ⟨f3, e, Y, T⟩
    cases e
    replace T := T1 f3 T
    have Y : Sy _ _ _ [] := Y
    exact ⟨_, Y.pick [] rfl, rfl, T⟩
/-- tracery/weigh.Good -/
def S18 (x : Nat) (h : Heap) (R : Value → Heap → Prop) : Prop :=
  R (.bool (((FloatKind.f64).format.order x 0 == some .gt) || ((FloatKind.f64).format.order x 0 == some .eq))) h
theorem calls18 {h : Heap} {R : Value → Heap → Prop} (x : Nat) (H : S18 x h R) : CallsH Tryz.prog 18 #[.float .f64 x] h R := by
  have e : S18 x h R = FX (envX [] 5) { loops := [], joins := [], blocks := [], draws := [] } Tryz.f18 (Tryz.f18.body.getD .skip) [.float .f64 x] h R := by kernel_rfl
  exact calls_of_FX (envX_ok _ _) Tryz.func18 (by kernel_rfl) (by kernel_rfl) (by kernel_rfl) (e ▸ H)
/-- tracery/weigh.Good -/
def Ok18 (x : Nat) (R : Bool → Prop) : Prop :=
  ∀ (h : Heap), Hp h [] → CallsH Tryz.prog 18 #[.float .f64 x] h fun v h' => ∃ (rV : Bool), Sy h [] h' [] ∧ v = .bool rV ∧ R rV
theorem Ok18.mono {x} {R R' : Bool → Prop} (H : Ok18 x R) (kz : ∀ rV, R rV → R' rV) : Ok18 x R' :=
  fun h  hp => (H h  hp).mono fun _ _ ⟨rV, P, e, q⟩ => ⟨rV, P, e, kz _ q⟩
def T18 (x : Nat) (R : Bool → Prop) : Prop :=
  R (((FloatKind.f64).format.order x 0 == some .gt) || ((FloatKind.f64).format.order x 0 == some .eq))
theorem ok18 {x} {R : Bool → Prop} (T : T18 x R) : Ok18 x R := by
  intro h  H
  have Y : Sy h [] h _ := Sy.startM H rfl
  apply calls18
  unfold S18
  unfold T18 at T
  exact ⟨_, Y.pick [] rfl, rfl, T⟩
/-- tracery/weigh.unsigned -/
def S35 (s : ByteArray) (h : Heap) (R : Value → Heap → Prop) : Prop :=
  let K := fun (hv : Heap) =>
   (R (.string s) hv)
  cnd (!(s.toList == (⟨#[]⟩ : ByteArray).toList))
   (0 ≤ (0 : Int) ∧ (0 : Int) < ((s.size : Nat) : Int) ∧ ∃ xc : UInt8, s[Int.toNat (0 : Int)]? = some xc ∧ cnd (((UInt8.toNat xc : Nat) : Int) == (43 : Int))
    (0 ≤ (1 : Int) ∧ (1 : Int) ≤ ((s.size : Nat) : Int) ∧ R (.string (s.extract (Int.toNat (1 : Int)) s.size)) h)
    (0 ≤ (0 : Int) ∧ (0 : Int) < ((s.size : Nat) : Int) ∧ ∃ xc2 : UInt8, s[Int.toNat (0 : Int)]? = some xc2 ∧ cnd (((UInt8.toNat xc2 : Nat) : Int) == (45 : Int))
     (0 ≤ (1 : Int) ∧ (1 : Int) ≤ ((s.size : Nat) : Int) ∧ R (.string (s.extract (Int.toNat (1 : Int)) s.size)) h)
     (K h)))
   (K h)
theorem calls35 {h : Heap} {R : Value → Heap → Prop} (s : ByteArray) (H : S35 s h R) : CallsH Tryz.prog 35 #[.string s] h R := by
  have e : S35 s h R = FX (envX [] 18) { loops := [], joins := [], blocks := [], draws := [] } Tryz.f35 (Tryz.f35.body.getD .skip) [.string s] h R := by kernel_rfl
  exact calls_of_FX (envX_ok _ _) Tryz.func35 (by kernel_rfl) (by kernel_rfl) (by kernel_rfl) (e ▸ H)
/-- tracery/weigh.unsigned -/
def Ok35 (s : ByteArray) (R : ByteArray → Prop) : Prop :=
  ∀ (h : Heap), Hp h [] → CallsH Tryz.prog 35 #[.string s] h fun v h' => ∃ (rV : ByteArray), Sy h [] h' [] ∧ v = .string rV ∧ R rV
theorem Ok35.mono {s} {R R' : ByteArray → Prop} (H : Ok35 s R) (kz : ∀ rV, R rV → R' rV) : Ok35 s R' :=
  fun h  hp => (H h  hp).mono fun _ _ ⟨rV, P, e, q⟩ => ⟨rV, P, e, kz _ q⟩
def T35 (s : ByteArray) (R : ByteArray → Prop) : Prop :=
  ∃ Jv : Prop,
  ( cnd (!(s.toList == (⟨#[]⟩ : ByteArray).toList))
   (0 ≤ (0 : Int) ∧ (0 : Int) < ((s.size : Nat) : Int) ∧ ∃ xc : UInt8, s[Int.toNat (0 : Int)]? = some xc ∧ cnd (((UInt8.toNat xc : Nat) : Int) == (43 : Int))
    (0 ≤ (1 : Int) ∧ (1 : Int) ≤ ((s.size : Nat) : Int) ∧ R (s.extract (Int.toNat (1 : Int)) s.size))
    (0 ≤ (0 : Int) ∧ (0 : Int) < ((s.size : Nat) : Int) ∧ ∃ xc2 : UInt8, s[Int.toNat (0 : Int)]? = some xc2 ∧ cnd (((UInt8.toNat xc2 : Nat) : Int) == (45 : Int))
     (0 ≤ (1 : Int) ∧ (1 : Int) ≤ ((s.size : Nat) : Int) ∧ R (s.extract (Int.toNat (1 : Int)) s.size))
     (Jv)))
   (Jv)) ∧
  (Jv →
  R s)
theorem ok35 {s} {R : ByteArray → Prop} (T : T35 s R) : Ok35 s R := by
  intro h  H
  have Y : Sy h [] h _ := Sy.startM H rfl
  apply calls35
  unfold S35
  unfold T35 at T
  obtain ⟨Jv, T0, T1⟩ := T
  obtain ⟨B, hB, _⟩ := Y.cut [] [] rfl
  intro K
  have hK : ∀  (hv : Heap), (Sy h [] hv ([] ++ B) ∧ Jv) → K hv := by
    subst hB
    clear T0 Y
    rintro hv ⟨Y, T⟩
    replace T := T1 T
    have Y : Sy _ _ _ [] := Y
    unfold K
    exact ⟨_, Y.pick [] rfl, rfl, T⟩
  subst hB
  replace T := T0
  clear T0 T1
  refine cnd_imp T (fun T => ?_) (fun T => ?_)
  · obtain ⟨q_7, q_8, T⟩ := T
    refine ⟨q_7, q_8, ?_⟩
    obtain ⟨xc, hq, T⟩ := T
    refine ⟨xc, hq, ?_⟩
    refine cnd_imp T (fun T => ?_) (fun T => ?_)
    · obtain ⟨q, q_2, T⟩ := T
      refine ⟨q, q_2, ?_⟩
      exact ⟨_, Y.pick [] rfl, rfl, T⟩
    · obtain ⟨q_5, q_6, T⟩ := T
      refine ⟨q_5, q_6, ?_⟩
      obtain ⟨xc2, hq, T⟩ := T
      refine ⟨xc2, hq, ?_⟩
      refine cnd_imp T (fun T => ?_) (fun T => ?_)
      · obtain ⟨q_3, q_4, T⟩ := T
        refine ⟨q_3, q_4, ?_⟩
        exact ⟨_, Y.pick [] rfl, rfl, T⟩
      · exact hK _ ⟨Y.pick [] rfl, T⟩
  · exact hK _ ⟨Y.pick [] rfl, T⟩
/-- tracery/weigh.digits -/
def S36 (s : ByteArray) (h : Heap) (R : Value → Heap → Prop) : Prop :=
  let K2 := fun (n2 : Int) (hv3 : Heap) =>
   (R (.int .i64 n2) hv3)
  ∃ (Iv : List Value → Heap → Prop) (m : List Value → Heap → Nat), Iv [.int .i64 0] h ∧
  ∀ n : Int, ∀ hv, Iv [.int .i64 n] hv →
  let K := fun (hv2 : Heap) =>
   (K2 n hv2)
  cnd (decide (n < ((s.size : Nat) : Int)))
   (0 ≤ n ∧ n < ((s.size : Nat) : Int) ∧ ∃ xc : UInt8, s[Int.toNat n]? = some xc ∧ cnd (decide (((UInt8.toNat xc : Nat) : Int) ≥ (48 : Int)))
    (0 ≤ n ∧ n < ((s.size : Nat) : Int) ∧ ∃ xc2 : UInt8, s[Int.toNat n]? = some xc2 ∧ cnd (decide (((UInt8.toNat xc2 : Nat) : Int) ≤ (57 : Int)))
     (Iv [.int .i64 (IntKind.i64.wrap (n + (1 : Int)))] hv ∧ m [.int .i64 (IntKind.i64.wrap (n + (1 : Int)))] hv < m [.int .i64 n] hv)
     (K2 n hv))
    (K hv))
   (K hv)
theorem calls36 {h : Heap} {R : Value → Heap → Prop} (s : ByteArray) (H : S36 s h R) : CallsH Tryz.prog 36 #[.string s] h R := by
  have e : S36 s h R = FX (envX [] 23) { loops := [(0, ⟨[0], [3], [], []⟩)], joins := [], blocks := [], draws := [] } Tryz.f36 (Tryz.f36.body.getD .skip) [.string s] h R := by kernel_rfl
  exact calls_of_FX (envX_ok _ _) Tryz.func36 (by kernel_rfl) (by kernel_rfl) (by kernel_rfl) (e ▸ H)
/-- tracery/weigh.digits -/
def Ok36 (s : ByteArray) (R : Int → Prop) : Prop :=
  ∀ (h : Heap), Hp h [] → CallsH Tryz.prog 36 #[.string s] h fun v h' => ∃ (rV : Int), Sy h [] h' [] ∧ v = .int .i64 rV ∧ R rV
theorem Ok36.mono {s} {R R' : Int → Prop} (H : Ok36 s R) (kz : ∀ rV, R rV → R' rV) : Ok36 s R' :=
  fun h  hp => (H h  hp).mono fun _ _ ⟨rV, P, e, q⟩ => ⟨rV, P, e, kz _ q⟩
def T36 (s : ByteArray) (R : Int → Prop) : Prop :=
  ∃ Jv : Int → Prop,
  ( ∃ (Iv : Int → Prop) (m : Int → Nat), Iv 0 ∧
  ∀ n : Int, Iv n →
  ∃ Jv_2 : Prop,
  ( cnd (decide (n < ((s.size : Nat) : Int)))
    (0 ≤ n ∧ n < ((s.size : Nat) : Int) ∧ ∃ xc : UInt8, s[Int.toNat n]? = some xc ∧ cnd (decide (((UInt8.toNat xc : Nat) : Int) ≥ (48 : Int)))
     (0 ≤ n ∧ n < ((s.size : Nat) : Int) ∧ ∃ xc2 : UInt8, s[Int.toNat n]? = some xc2 ∧ cnd (decide (((UInt8.toNat xc2 : Nat) : Int) ≤ (57 : Int)))
      (Iv (IntKind.i64.wrap (n + (1 : Int))) ∧ m (IntKind.i64.wrap (n + (1 : Int))) < m n)
      (Jv n))
     (Jv_2))
    (Jv_2)) ∧
  (Jv_2 →
  Jv n)) ∧
  ∀ n2 : Int, Jv n2 →
  R n2
theorem ok36 {s} {R : Int → Prop} (T : T36 s R) : Ok36 s R := by
  intro h  H
  have Y : Sy h [] h _ := Sy.startM H rfl
  apply calls36
  unfold S36
  unfold T36 at T
  obtain ⟨Jv, T0, T1⟩ := T
  obtain ⟨B, hB, _⟩ := Y.cut [] [] rfl
  intro K2
  have hK2 : ∀ (n2 : Int) (hv3 : Heap), (Sy h [] hv3 ([] ++ B) ∧ Jv n2) → K2 n2 hv3 := by
    subst hB
    clear T0 Y
    rintro n2 hv3 ⟨Y, T⟩
    replace T := T1 n2 T
    have Y : Sy _ _ _ [] := Y
    unfold K2
    exact ⟨_, Y.pick [] rfl, rfl, T⟩
  subst hB
  replace T := T0
  clear T0 T1
  obtain ⟨Iv, m, T0, T1⟩ := T
  obtain ⟨B_2, hB_2, YB⟩ := Y.cut [] [] rfl
  obtain ⟨JJ, hJJ⟩ : ∃ JJ : Nat → List Value → Heap → Prop, JJ = (fun k lz h' => ∃ (n : Int), lz = [.int .i64 n] ∧ Sy h [] h' ([] ++ B_2) ∧ Iv n ∧ m n = k) := ⟨_, rfl⟩
  refine ⟨fun lz h' => ∃ k, JJ k lz h', Lm JJ, ?_, ?_⟩
  · subst hJJ hB_2
    exact ⟨_, _, rfl, YB, T0, rfl⟩
  · clear YB T0 Y
    intro n hv hI
    obtain ⟨k, hI, hm⟩ := loopIn hI
    subst hJJ hB_2
    obtain ⟨n, e, Y, T, rfl⟩ := hI
    cases e
    replace T := T1 n T
    have Y : Sy _ _ _ [] := Y
    obtain ⟨Jv_2, T0, T1⟩ := T
    obtain ⟨B_3, hB_3, _⟩ := Y.cut [] [] rfl
    intro K
    have hK : ∀  (hv2 : Heap), (Sy h [] hv2 ([] ++ B_3) ∧ Jv_2) → K hv2 := by
      subst hB_3
      clear T0 Y
      rintro hv2 ⟨Y, T⟩
      replace T := T1 T
      have Y : Sy _ _ _ [] := Y
      unfold K
      exact hK2 _ _ ⟨Y.pick [] rfl, T⟩
    subst hB_3
    replace T := T0
    clear T0 T1
    refine cnd_imp T (fun T => ?_) (fun T => ?_)
    · obtain ⟨q_3, q_4, T⟩ := T
      refine ⟨q_3, q_4, ?_⟩
      obtain ⟨xc, hq, T⟩ := T
      refine ⟨xc, hq, ?_⟩
      refine cnd_imp T (fun T => ?_) (fun T => ?_)
      · obtain ⟨q, q_2, T⟩ := T
        refine ⟨q, q_2, ?_⟩
        obtain ⟨xc2, hq, T⟩ := T
        refine ⟨xc2, hq, ?_⟩
        refine cnd_imp T (fun T => ?_) (fun T => ?_)
        · exact loopBack hm ⟨_, rfl, Y.pick [] rfl, T.1, rfl⟩ T.2
        · exact hK2 _ _ ⟨Y.pick [] rfl, T⟩
      · exact hK _ ⟨Y.pick [] rfl, T⟩
    · exact hK _ ⟨Y.pick [] rfl, T⟩
/-- tracery/weigh.number -/
def S27 (s : ByteArray) (h : Heap) (R : Value → Heap → Prop) : Prop :=
  callX Tryz.prog 35 #[.string s] h [] fun v hv =>
  ∃ r : ByteArray, v = .string r ∧
  callX Tryz.prog 36 #[.string r] hv [] fun v2 hv2 =>
  ∃ r2 : Int, v2 = .int .i64 r2 ∧
  cnd (r2 == (0 : Int))
   (R (.bool false) hv2)
   (0 ≤ r2 ∧ r2 ≤ ((r.size : Nat) : Int) ∧ let K := fun (s3 : ByteArray) (hv5 : Heap) =>
    (cnd (s3.toList == (⟨#[]⟩ : ByteArray).toList)
     (R (.bool true) hv5)
     (let K2 := fun (hv6 : Heap) =>
      (0 ≤ (1 : Int) ∧ (1 : Int) ≤ ((s3.size : Nat) : Int) ∧ callX Tryz.prog 35 #[.string (s3.extract (Int.toNat (1 : Int)) s3.size)] hv6 [] fun v4 hv7 =>
      ∃ r4 : ByteArray, v4 = .string r4 ∧
      cnd (decide (((r4.size : Nat) : Int) ≥ (1 : Int)))
       (cnd (decide (((r4.size : Nat) : Int) ≤ (4 : Int)))
        (callX Tryz.prog 36 #[.string r4] hv7 [] fun v5 hv8 =>
        ∃ r5 : Int, v5 = .int .i64 r5 ∧
        R (.bool (r5 == ((r4.size : Nat) : Int))) hv8)
        (R (.bool false) hv7))
       (R (.bool false) hv7))
     0 ≤ (0 : Int) ∧ (0 : Int) < ((s3.size : Nat) : Int) ∧ ∃ xc2 : UInt8, s3[Int.toNat (0 : Int)]? = some xc2 ∧ cnd (((UInt8.toNat xc2 : Nat) : Int) != (101 : Int))
      (0 ≤ (0 : Int) ∧ (0 : Int) < ((s3.size : Nat) : Int) ∧ ∃ xc3 : UInt8, s3[Int.toNat (0 : Int)]? = some xc3 ∧ cnd (((UInt8.toNat xc3 : Nat) : Int) != (69 : Int))
       (R (.bool false) hv5)
       (K2 hv5))
      (K2 hv5)))
   cnd (!((r.extract (Int.toNat r2) r.size).toList == (⟨#[]⟩ : ByteArray).toList))
    (0 ≤ (0 : Int) ∧ (0 : Int) < (((r.extract (Int.toNat r2) r.size).size : Nat) : Int) ∧ ∃ xc : UInt8, (r.extract (Int.toNat r2) r.size)[Int.toNat (0 : Int)]? = some xc ∧ ∃ Jv : List Value → Heap → Prop,
    ( cnd (((UInt8.toNat xc : Nat) : Int) == (46 : Int))
     (0 ≤ (1 : Int) ∧ (1 : Int) ≤ (((r.extract (Int.toNat r2) r.size).size : Nat) : Int) ∧ callX Tryz.prog 36 #[.string ((r.extract (Int.toNat r2) r.size).extract (Int.toNat (1 : Int)) (r.extract (Int.toNat r2) r.size).size)] hv2 [] fun v3 hv3 =>
     ∃ r3 : Int, v3 = .int .i64 r3 ∧
     cnd (r3 == (0 : Int))
      (R (.bool false) hv3)
      (0 ≤ (IntKind.i64.wrap ((1 : Int) + r3)) ∧ (IntKind.i64.wrap ((1 : Int) + r3)) ≤ (((r.extract (Int.toNat r2) r.size).size : Nat) : Int) ∧ Jv [.string ((r.extract (Int.toNat r2) r.size).extract (Int.toNat (IntKind.i64.wrap ((1 : Int) + r3))) (r.extract (Int.toNat r2) r.size).size)] hv3))
     (Jv [.string (r.extract (Int.toNat r2) r.size)] hv2)) ∧
    ∀ s2 : ByteArray, ∀ hv4, Jv [.string s2] hv4 →
    K s2 hv4)
    (K (r.extract (Int.toNat r2) r.size) hv2))
theorem calls27 {h : Heap} {R : Value → Heap → Prop} (s : ByteArray) (H : S27 s h R) : CallsH Tryz.prog 27 #[.string s] h R := by
  have e : S27 s h R = FX (envX [] 57) { loops := [], joins := [(19, ⟨[], [0], [], []⟩)], blocks := [], draws := [] } Tryz.f27 (Tryz.f27.body.getD .skip) [.string s] h R := by kernel_rfl
  exact calls_of_FX (envX_ok _ _) Tryz.func27 (by kernel_rfl) (by kernel_rfl) (by kernel_rfl) (e ▸ H)
/-- tracery/weigh.number -/
def Ok27 (s : ByteArray) (R : Bool → Prop) : Prop :=
  ∀ (h : Heap), Hp h [] → CallsH Tryz.prog 27 #[.string s] h fun v h' => ∃ (rV : Bool), Sy h [] h' [] ∧ v = .bool rV ∧ R rV
theorem Ok27.mono {s} {R R' : Bool → Prop} (H : Ok27 s R) (kz : ∀ rV, R rV → R' rV) : Ok27 s R' :=
  fun h  hp => (H h  hp).mono fun _ _ ⟨rV, P, e, q⟩ => ⟨rV, P, e, kz _ q⟩
def T27 (s : ByteArray) (R : Bool → Prop) : Prop :=
  Ok35 s (fun r =>
  Ok36 r (fun r2 =>
  cnd (r2 == (0 : Int))
   (R false)
   (0 ≤ r2 ∧ r2 ≤ ((r.size : Nat) : Int) ∧ ∃ Jv_2 : ByteArray → Prop,
   ( cnd (!((r.extract (Int.toNat r2) r.size).toList == (⟨#[]⟩ : ByteArray).toList))
    (0 ≤ (0 : Int) ∧ (0 : Int) < (((r.extract (Int.toNat r2) r.size).size : Nat) : Int) ∧ ∃ xc : UInt8, (r.extract (Int.toNat r2) r.size)[Int.toNat (0 : Int)]? = some xc ∧ ∃ Jv : ByteArray → Prop,
    ( cnd (((UInt8.toNat xc : Nat) : Int) == (46 : Int))
      (0 ≤ (1 : Int) ∧ (1 : Int) ≤ (((r.extract (Int.toNat r2) r.size).size : Nat) : Int) ∧ Ok36 ((r.extract (Int.toNat r2) r.size).extract (Int.toNat (1 : Int)) (r.extract (Int.toNat r2) r.size).size) (fun r3 =>
      cnd (r3 == (0 : Int))
       (R false)
       (0 ≤ (IntKind.i64.wrap ((1 : Int) + r3)) ∧ (IntKind.i64.wrap ((1 : Int) + r3)) ≤ (((r.extract (Int.toNat r2) r.size).size : Nat) : Int) ∧ Jv ((r.extract (Int.toNat r2) r.size).extract (Int.toNat (IntKind.i64.wrap ((1 : Int) + r3))) (r.extract (Int.toNat r2) r.size).size))))
      (Jv (r.extract (Int.toNat r2) r.size))) ∧
    ∀ s2 : ByteArray, Jv s2 →
    Jv_2 s2)
    (Jv_2 (r.extract (Int.toNat r2) r.size))) ∧
   ∀ s3 : ByteArray, Jv_2 s3 →
   cnd (s3.toList == (⟨#[]⟩ : ByteArray).toList)
    (R true)
    (∃ Jv_3 : Prop,
    ( 0 ≤ (0 : Int) ∧ (0 : Int) < ((s3.size : Nat) : Int) ∧ ∃ xc2 : UInt8, s3[Int.toNat (0 : Int)]? = some xc2 ∧ cnd (((UInt8.toNat xc2 : Nat) : Int) != (101 : Int))
     (0 ≤ (0 : Int) ∧ (0 : Int) < ((s3.size : Nat) : Int) ∧ ∃ xc3 : UInt8, s3[Int.toNat (0 : Int)]? = some xc3 ∧ cnd (((UInt8.toNat xc3 : Nat) : Int) != (69 : Int))
      (R false)
      (Jv_3))
     (Jv_3)) ∧
    (Jv_3 →
    0 ≤ (1 : Int) ∧ (1 : Int) ≤ ((s3.size : Nat) : Int) ∧ Ok35 (s3.extract (Int.toNat (1 : Int)) s3.size) (fun r4 =>
    cnd (decide (((r4.size : Nat) : Int) ≥ (1 : Int)))
     (cnd (decide (((r4.size : Nat) : Int) ≤ (4 : Int)))
      (Ok36 r4 (fun r5 =>
      R (r5 == ((r4.size : Nat) : Int))))
      (R false))
     (R false)))))))
theorem ok27 {s} {R : Bool → Prop} (T : T27 s R) : Ok27 s R := by
  intro h  H
  have Y : Sy h [] h _ := Sy.startM H rfl
  apply calls27
  unfold S27
  unfold T27 at T
  refine callX_sy (T _ (Hp.nil _)) (fun _ _ ⟨_, p, _⟩ => p.fr) alln ?_
  rintro v hv ⟨r, PP, rfl, T⟩
  have Y : Sy _ _ hv [] := Y.gr PP.fr
  clear PP
  refine ⟨r, rfl, ?_⟩
  refine callX_sy (T _ (Hp.nil _)) (fun _ _ ⟨_, p, _⟩ => p.fr) alln ?_
  rintro v2 hv2 ⟨r2, PP, rfl, T⟩
  have Y : Sy _ _ hv2 [] := Y.gr PP.fr
  clear PP
  refine ⟨r2, rfl, ?_⟩
  refine cnd_imp T (fun T => ?_) (fun T => ?_)
  · exact ⟨_, Y.pick [] rfl, rfl, T⟩
  · obtain ⟨q_13, q_14, T⟩ := T
    refine ⟨q_13, q_14, ?_⟩
    obtain ⟨Jv_2, T0, T1⟩ := T
    obtain ⟨B, hB, _⟩ := Y.cut [] [] rfl
    intro K
    have hK : ∀ (s3 : ByteArray) (hv5 : Heap), (Sy h [] hv5 ([] ++ B) ∧ Jv_2 s3) → K s3 hv5 := by
      subst hB
      clear T0 Y
      rintro s3 hv5 ⟨Y, T⟩
      replace T := T1 s3 T
      have Y : Sy _ _ _ [] := Y
      unfold K
      refine cnd_imp T (fun T => ?_) (fun T => ?_)
      · exact ⟨_, Y.pick [] rfl, rfl, T⟩
      · obtain ⟨Jv_3, T0, T1⟩ := T
        obtain ⟨B_2, hB_2, _⟩ := Y.cut [] [] rfl
        intro K2
        have hK2 : ∀  (hv6 : Heap), (Sy h [] hv6 ([] ++ B_2) ∧ Jv_3) → K2 hv6 := by
          subst hB_2
          clear T0 Y
          rintro hv6 ⟨Y, T⟩
          replace T := T1 T
          have Y : Sy _ _ _ [] := Y
          unfold K2
          obtain ⟨q, q_2, T⟩ := T
          refine ⟨q, q_2, ?_⟩
          refine callX_sy (T _ (Hp.nil _)) (fun _ _ ⟨_, p, _⟩ => p.fr) alln ?_
          rintro v4 hv7 ⟨r4, PP, rfl, T⟩
          have Y : Sy _ _ hv7 [] := Y.gr PP.fr
          clear PP
          refine ⟨r4, rfl, ?_⟩
          refine cnd_imp T (fun T => ?_) (fun T => ?_)
          · refine cnd_imp T (fun T => ?_) (fun T => ?_)
            · refine callX_sy (T _ (Hp.nil _)) (fun _ _ ⟨_, p, _⟩ => p.fr) alln ?_
              rintro v5 hv8 ⟨r5, PP, rfl, T⟩
              have Y : Sy _ _ hv8 [] := Y.gr PP.fr
              clear PP
              refine ⟨r5, rfl, ?_⟩
              exact ⟨_, Y.pick [] rfl, rfl, T⟩
            · exact ⟨_, Y.pick [] rfl, rfl, T⟩
          · exact ⟨_, Y.pick [] rfl, rfl, T⟩
        subst hB_2
        replace T := T0
        clear T0 T1
        obtain ⟨q_5, q_6, T⟩ := T
        refine ⟨q_5, q_6, ?_⟩
        obtain ⟨xc2, hq, T⟩ := T
        refine ⟨xc2, hq, ?_⟩
        refine cnd_imp T (fun T => ?_) (fun T => ?_)
        · obtain ⟨q_3, q_4, T⟩ := T
          refine ⟨q_3, q_4, ?_⟩
          obtain ⟨xc3, hq, T⟩ := T
          refine ⟨xc3, hq, ?_⟩
          refine cnd_imp T (fun T => ?_) (fun T => ?_)
          · exact ⟨_, Y.pick [] rfl, rfl, T⟩
          · exact hK2 _ ⟨Y.pick [] rfl, T⟩
        · exact hK2 _ ⟨Y.pick [] rfl, T⟩
    subst hB
    replace T := T0
    clear T0 T1
    refine cnd_imp T (fun T => ?_) (fun T => ?_)
    · obtain ⟨q_11, q_12, T⟩ := T
      refine ⟨q_11, q_12, ?_⟩
      obtain ⟨xc, hq, T⟩ := T
      refine ⟨xc, hq, ?_⟩
      obtain ⟨Jv, T0, T1⟩ := T
      obtain ⟨B_3, hB_3, _⟩ := Y.cut [] [] rfl
      refine ⟨fun lz h' => ∃ (s2 : ByteArray), lz = [.string s2] ∧ Sy h [] h' ([] ++ B_3) ∧ Jv s2, ?_, ?_⟩
      · subst hB_3
        replace T := T0
        clear T0 T1
        refine cnd_imp T (fun T => ?_) (fun T => ?_)
        · obtain ⟨q_9, q_10, T⟩ := T
          refine ⟨q_9, q_10, ?_⟩
          refine callX_sy (T _ (Hp.nil _)) (fun _ _ ⟨_, p, _⟩ => p.fr) alln ?_
          rintro v3 hv3 ⟨r3, PP, rfl, T⟩
          have Y : Sy _ _ hv3 [] := Y.gr PP.fr
          clear PP
          refine ⟨r3, rfl, ?_⟩
          refine cnd_imp T (fun T => ?_) (fun T => ?_)
          · exact ⟨_, Y.pick [] rfl, rfl, T⟩
          · obtain ⟨q_7, q_8, T⟩ := T
            refine ⟨q_7, q_8, ?_⟩
            exact ⟨_, rfl, Y.pick [] rfl, T⟩
        · exact ⟨_, rfl, Y.pick [] rfl, T⟩
      · subst hB_3
        clear T0 Y
        rintro s2 hv4 ⟨s2, e, Y, T⟩
        cases e
        replace T := T1 s2 T
        have Y : Sy _ _ _ [] := Y
        exact hK _ _ ⟨Y.pick [] rfl, T⟩
    · exact hK _ _ ⟨Y.pick [] rfl, T⟩
/-- tracery/traceryref1.digits -/
def S40 (s : ByteArray) (atv : Int) (h : Heap) (R : Value → Heap → Prop) : Prop :=
  let K2 := fun (n2 : Int) (hv3 : Heap) =>
   (R (.int .i64 n2) hv3)
  ∃ (Iv : List Value → Heap → Prop) (m : List Value → Heap → Nat), Iv [.int .i64 0] h ∧
  ∀ n : Int, ∀ hv, Iv [.int .i64 n] hv →
  let K := fun (hv2 : Heap) =>
   (K2 n hv2)
  cnd (decide ((IntKind.i64.wrap (atv + n)) < ((s.size : Nat) : Int)))
   (0 ≤ (IntKind.i64.wrap (atv + n)) ∧ (IntKind.i64.wrap (atv + n)) < ((s.size : Nat) : Int) ∧ ∃ xc : UInt8, s[Int.toNat (IntKind.i64.wrap (atv + n))]? = some xc ∧ cnd (decide (((UInt8.toNat xc : Nat) : Int) ≥ (48 : Int)))
    (0 ≤ (IntKind.i64.wrap (atv + n)) ∧ (IntKind.i64.wrap (atv + n)) < ((s.size : Nat) : Int) ∧ ∃ xc2 : UInt8, s[Int.toNat (IntKind.i64.wrap (atv + n))]? = some xc2 ∧ cnd (decide (((UInt8.toNat xc2 : Nat) : Int) ≤ (57 : Int)))
     (Iv [.int .i64 (IntKind.i64.wrap (n + (1 : Int)))] hv ∧ m [.int .i64 (IntKind.i64.wrap (n + (1 : Int)))] hv < m [.int .i64 n] hv)
     (K2 n hv))
    (K hv))
   (K hv)
theorem calls40 {h : Heap} {R : Value → Heap → Prop} (s : ByteArray) (atv : Int) (H : S40 s atv h R) : CallsH Tryz.prog 40 #[.string s, .int .i64 atv] h R := by
  have e : S40 s atv h R = FX (envX [] 31) { loops := [(0, ⟨[0, 1], [5], [], []⟩)], joins := [], blocks := [], draws := [] } Tryz.f40 (Tryz.f40.body.getD .skip) [.string s, .int .i64 atv] h R := by kernel_rfl
  exact calls_of_FX (envX_ok _ _) Tryz.func40 (by kernel_rfl) (by kernel_rfl) (by kernel_rfl) (e ▸ H)
/-- tracery/traceryref1.digits -/
def Ok40 (s : ByteArray) (atv : Int) (R : Int → Prop) : Prop :=
  ∀ (h : Heap), Hp h [] → CallsH Tryz.prog 40 #[.string s, .int .i64 atv] h fun v h' => ∃ (rV : Int), Sy h [] h' [] ∧ v = .int .i64 rV ∧ R rV
theorem Ok40.mono {s atv} {R R' : Int → Prop} (H : Ok40 s atv R) (kz : ∀ rV, R rV → R' rV) : Ok40 s atv R' :=
  fun h  hp => (H h  hp).mono fun _ _ ⟨rV, P, e, q⟩ => ⟨rV, P, e, kz _ q⟩
def T40 (s : ByteArray) (atv : Int) (R : Int → Prop) : Prop :=
  ∃ Jv : Int → Prop,
  ( ∃ (Iv : Int → Prop) (m : Int → Nat), Iv 0 ∧
  ∀ n : Int, Iv n →
  ∃ Jv_2 : Prop,
  ( cnd (decide ((IntKind.i64.wrap (atv + n)) < ((s.size : Nat) : Int)))
    (0 ≤ (IntKind.i64.wrap (atv + n)) ∧ (IntKind.i64.wrap (atv + n)) < ((s.size : Nat) : Int) ∧ ∃ xc : UInt8, s[Int.toNat (IntKind.i64.wrap (atv + n))]? = some xc ∧ cnd (decide (((UInt8.toNat xc : Nat) : Int) ≥ (48 : Int)))
     (0 ≤ (IntKind.i64.wrap (atv + n)) ∧ (IntKind.i64.wrap (atv + n)) < ((s.size : Nat) : Int) ∧ ∃ xc2 : UInt8, s[Int.toNat (IntKind.i64.wrap (atv + n))]? = some xc2 ∧ cnd (decide (((UInt8.toNat xc2 : Nat) : Int) ≤ (57 : Int)))
      (Iv (IntKind.i64.wrap (n + (1 : Int))) ∧ m (IntKind.i64.wrap (n + (1 : Int))) < m n)
      (Jv n))
     (Jv_2))
    (Jv_2)) ∧
  (Jv_2 →
  Jv n)) ∧
  ∀ n2 : Int, Jv n2 →
  R n2
theorem ok40 {s atv} {R : Int → Prop} (T : T40 s atv R) : Ok40 s atv R := by
  intro h  H
  have Y : Sy h [] h _ := Sy.startM H rfl
  apply calls40
  unfold S40
  unfold T40 at T
  obtain ⟨Jv, T0, T1⟩ := T
  obtain ⟨B, hB, _⟩ := Y.cut [] [] rfl
  intro K2
  have hK2 : ∀ (n2 : Int) (hv3 : Heap), (Sy h [] hv3 ([] ++ B) ∧ Jv n2) → K2 n2 hv3 := by
    subst hB
    clear T0 Y
    rintro n2 hv3 ⟨Y, T⟩
    replace T := T1 n2 T
    have Y : Sy _ _ _ [] := Y
    unfold K2
    exact ⟨_, Y.pick [] rfl, rfl, T⟩
  subst hB
  replace T := T0
  clear T0 T1
  obtain ⟨Iv, m, T0, T1⟩ := T
  obtain ⟨B_2, hB_2, YB⟩ := Y.cut [] [] rfl
  obtain ⟨JJ, hJJ⟩ : ∃ JJ : Nat → List Value → Heap → Prop, JJ = (fun k lz h' => ∃ (n : Int), lz = [.int .i64 n] ∧ Sy h [] h' ([] ++ B_2) ∧ Iv n ∧ m n = k) := ⟨_, rfl⟩
  refine ⟨fun lz h' => ∃ k, JJ k lz h', Lm JJ, ?_, ?_⟩
  · subst hJJ hB_2
    exact ⟨_, _, rfl, YB, T0, rfl⟩
  · clear YB T0 Y
    intro n hv hI
    obtain ⟨k, hI, hm⟩ := loopIn hI
    subst hJJ hB_2
    obtain ⟨n, e, Y, T, rfl⟩ := hI
    cases e
    replace T := T1 n T
    have Y : Sy _ _ _ [] := Y
    obtain ⟨Jv_2, T0, T1⟩ := T
    obtain ⟨B_3, hB_3, _⟩ := Y.cut [] [] rfl
    intro K
    have hK : ∀  (hv2 : Heap), (Sy h [] hv2 ([] ++ B_3) ∧ Jv_2) → K hv2 := by
      subst hB_3
      clear T0 Y
      rintro hv2 ⟨Y, T⟩
      replace T := T1 T
      have Y : Sy _ _ _ [] := Y
      unfold K
      exact hK2 _ _ ⟨Y.pick [] rfl, T⟩
    subst hB_3
    replace T := T0
    clear T0 T1
    refine cnd_imp T (fun T => ?_) (fun T => ?_)
    · obtain ⟨q_3, q_4, T⟩ := T
      refine ⟨q_3, q_4, ?_⟩
      obtain ⟨xc, hq, T⟩ := T
      refine ⟨xc, hq, ?_⟩
      refine cnd_imp T (fun T => ?_) (fun T => ?_)
      · obtain ⟨q, q_2, T⟩ := T
        refine ⟨q, q_2, ?_⟩
        obtain ⟨xc2, hq, T⟩ := T
        refine ⟨xc2, hq, ?_⟩
        refine cnd_imp T (fun T => ?_) (fun T => ?_)
        · exact loopBack hm ⟨_, rfl, Y.pick [] rfl, T.1, rfl⟩ T.2
        · exact hK2 _ _ ⟨Y.pick [] rfl, T⟩
      · exact hK _ ⟨Y.pick [] rfl, T⟩
    · exact hK _ ⟨Y.pick [] rfl, T⟩
/-- tracery/traceryref1.Form -/
def S31 (s : ByteArray) (h : Heap) (R : Value → Heap → Prop) : Prop :=
  let K := fun (atv2 : Int) (hv2 : Heap) =>
   (callX Tryz.prog 40 #[.string s, .int .i64 atv2] hv2 [] fun v hv3 =>
   ∃ r : Int, v = .int .i64 r ∧
   cnd (r == (0 : Int))
    (R (.bool false) hv3)
    (let K2 := fun (atv4 : Int) (hv6 : Heap) =>
     (let K5 := fun (atv10 : Int) (hv14 : Heap) =>
      (R (.bool (atv10 == ((s.size : Nat) : Int))) hv14)
     cnd (decide (atv4 < ((s.size : Nat) : Int)))
      (0 ≤ atv4 ∧ atv4 < ((s.size : Nat) : Int) ∧ ∃ xc4 : UInt8, s[Int.toNat atv4]? = some xc4 ∧ cnd (((UInt8.toNat xc4 : Nat) : Int) == (101 : Int))
       (let K3 := fun (atv6 : Int) (hv8 : Heap) =>
        (callX Tryz.prog 40 #[.string s, .int .i64 atv6] hv8 [] fun v3 hv9 =>
        ∃ r3 : Int, v3 = .int .i64 r3 ∧
        cnd (decide (r3 < (1 : Int)))
         (R (.bool false) hv9)
         (cnd (decide (r3 > (4 : Int)))
          (R (.bool false) hv9)
          (K5 (IntKind.i64.wrap (atv6 + r3)) hv9)))
       cnd (decide ((IntKind.i64.wrap (atv4 + (1 : Int))) < ((s.size : Nat) : Int)))
        (0 ≤ (IntKind.i64.wrap (atv4 + (1 : Int))) ∧ (IntKind.i64.wrap (atv4 + (1 : Int))) < ((s.size : Nat) : Int) ∧ ∃ xc6 : UInt8, s[Int.toNat (IntKind.i64.wrap (atv4 + (1 : Int)))]? = some xc6 ∧ cnd (((UInt8.toNat xc6 : Nat) : Int) == (43 : Int))
         (K3 (IntKind.i64.wrap ((IntKind.i64.wrap (atv4 + (1 : Int))) + (1 : Int))) hv6)
         (0 ≤ (IntKind.i64.wrap (atv4 + (1 : Int))) ∧ (IntKind.i64.wrap (atv4 + (1 : Int))) < ((s.size : Nat) : Int) ∧ ∃ xc7 : UInt8, s[Int.toNat (IntKind.i64.wrap (atv4 + (1 : Int)))]? = some xc7 ∧ ∃ Jv3 : List Value → Heap → Prop,
         ( cnd (((UInt8.toNat xc7 : Nat) : Int) == (45 : Int))
          (Jv3 [.int .i64 (IntKind.i64.wrap ((IntKind.i64.wrap (atv4 + (1 : Int))) + (1 : Int)))] hv6)
          (Jv3 [.int .i64 (IntKind.i64.wrap (atv4 + (1 : Int)))] hv6)) ∧
         ∀ atv5 : Int, ∀ hv7, Jv3 [.int .i64 atv5] hv7 →
         K3 atv5 hv7))
        (K3 (IntKind.i64.wrap (atv4 + (1 : Int))) hv6))
       (0 ≤ atv4 ∧ atv4 < ((s.size : Nat) : Int) ∧ ∃ xc5 : UInt8, s[Int.toNat atv4]? = some xc5 ∧ ∃ Jv4 : List Value → Heap → Prop,
       ( cnd (((UInt8.toNat xc5 : Nat) : Int) == (69 : Int))
        (let K4 := fun (atv8 : Int) (hv11 : Heap) =>
         (callX Tryz.prog 40 #[.string s, .int .i64 atv8] hv11 [] fun v4 hv12 =>
         ∃ r4 : Int, v4 = .int .i64 r4 ∧
         cnd (decide (r4 < (1 : Int)))
          (R (.bool false) hv12)
          (cnd (decide (r4 > (4 : Int)))
           (R (.bool false) hv12)
           (Jv4 [.int .i64 (IntKind.i64.wrap (atv8 + r4))] hv12)))
        cnd (decide ((IntKind.i64.wrap (atv4 + (1 : Int))) < ((s.size : Nat) : Int)))
         (0 ≤ (IntKind.i64.wrap (atv4 + (1 : Int))) ∧ (IntKind.i64.wrap (atv4 + (1 : Int))) < ((s.size : Nat) : Int) ∧ ∃ xc8 : UInt8, s[Int.toNat (IntKind.i64.wrap (atv4 + (1 : Int)))]? = some xc8 ∧ cnd (((UInt8.toNat xc8 : Nat) : Int) == (43 : Int))
          (K4 (IntKind.i64.wrap ((IntKind.i64.wrap (atv4 + (1 : Int))) + (1 : Int))) hv6)
          (0 ≤ (IntKind.i64.wrap (atv4 + (1 : Int))) ∧ (IntKind.i64.wrap (atv4 + (1 : Int))) < ((s.size : Nat) : Int) ∧ ∃ xc9 : UInt8, s[Int.toNat (IntKind.i64.wrap (atv4 + (1 : Int)))]? = some xc9 ∧ ∃ Jv5 : List Value → Heap → Prop,
          ( cnd (((UInt8.toNat xc9 : Nat) : Int) == (45 : Int))
            (Jv5 [.int .i64 (IntKind.i64.wrap ((IntKind.i64.wrap (atv4 + (1 : Int))) + (1 : Int)))] hv6)
            (Jv5 [.int .i64 (IntKind.i64.wrap (atv4 + (1 : Int)))] hv6)) ∧
          ∀ atv7 : Int, ∀ hv10, Jv5 [.int .i64 atv7] hv10 →
          K4 atv7 hv10))
         (K4 (IntKind.i64.wrap (atv4 + (1 : Int))) hv6))
        (Jv4 [.int .i64 atv4] hv6)) ∧
       ∀ atv9 : Int, ∀ hv13, Jv4 [.int .i64 atv9] hv13 →
       K5 atv9 hv13))
      (K5 atv4 hv6))
    cnd (decide ((IntKind.i64.wrap (atv2 + r)) < ((s.size : Nat) : Int)))
     (0 ≤ (IntKind.i64.wrap (atv2 + r)) ∧ (IntKind.i64.wrap (atv2 + r)) < ((s.size : Nat) : Int) ∧ ∃ xc3 : UInt8, s[Int.toNat (IntKind.i64.wrap (atv2 + r))]? = some xc3 ∧ ∃ Jv2 : List Value → Heap → Prop,
     ( cnd (((UInt8.toNat xc3 : Nat) : Int) == (46 : Int))
      (callX Tryz.prog 40 #[.string s, .int .i64 (IntKind.i64.wrap ((IntKind.i64.wrap (atv2 + r)) + (1 : Int)))] hv3 [] fun v2 hv4 =>
      ∃ r2 : Int, v2 = .int .i64 r2 ∧
      cnd (r2 == (0 : Int))
       (R (.bool false) hv4)
       (Jv2 [.int .i64 (IntKind.i64.wrap ((IntKind.i64.wrap ((IntKind.i64.wrap (atv2 + r)) + (1 : Int))) + r2))] hv4))
      (Jv2 [.int .i64 (IntKind.i64.wrap (atv2 + r))] hv3)) ∧
     ∀ atv3 : Int, ∀ hv5, Jv2 [.int .i64 atv3] hv5 →
     K2 atv3 hv5)
     (K2 (IntKind.i64.wrap (atv2 + r)) hv3)))
  cnd (decide ((0 : Int) < ((s.size : Nat) : Int)))
   (0 ≤ (0 : Int) ∧ (0 : Int) < ((s.size : Nat) : Int) ∧ ∃ xc : UInt8, s[Int.toNat (0 : Int)]? = some xc ∧ cnd (((UInt8.toNat xc : Nat) : Int) == (43 : Int))
    (K (IntKind.i64.wrap ((0 : Int) + (1 : Int))) h)
    (0 ≤ (0 : Int) ∧ (0 : Int) < ((s.size : Nat) : Int) ∧ ∃ xc2 : UInt8, s[Int.toNat (0 : Int)]? = some xc2 ∧ ∃ Jv : List Value → Heap → Prop,
    ( cnd (((UInt8.toNat xc2 : Nat) : Int) == (45 : Int))
     (Jv [.int .i64 (IntKind.i64.wrap ((0 : Int) + (1 : Int)))] h)
     (Jv [.int .i64 0] h)) ∧
    ∀ atv : Int, ∀ hv, Jv [.int .i64 atv] hv →
    K atv hv))
   (K 0 h)
theorem calls31 {h : Heap} {R : Value → Heap → Prop} (s : ByteArray) (H : S31 s h R) : CallsH Tryz.prog 31 #[.string s] h R := by
  have e : S31 s h R = FX (envX [] 103) { loops := [], joins := [(20, ⟨[0], [3], [], []⟩), (40, ⟨[0], [3], [], []⟩), (84, ⟨[0], [3], [], []⟩), (66, ⟨[0], [3], [], []⟩)], blocks := [], draws := [] } Tryz.f31 (Tryz.f31.body.getD .skip) [.string s] h R := by kernel_rfl
  exact calls_of_FX (envX_ok _ _) Tryz.func31 (by kernel_rfl) (by kernel_rfl) (by kernel_rfl) (e ▸ H)
/-- tracery/traceryref1.Form -/
def Ok31 (s : ByteArray) (R : Bool → Prop) : Prop :=
  ∀ (h : Heap), Hp h [] → CallsH Tryz.prog 31 #[.string s] h fun v h' => ∃ (rV : Bool), Sy h [] h' [] ∧ v = .bool rV ∧ R rV
theorem Ok31.mono {s} {R R' : Bool → Prop} (H : Ok31 s R) (kz : ∀ rV, R rV → R' rV) : Ok31 s R' :=
  fun h  hp => (H h  hp).mono fun _ _ ⟨rV, P, e, q⟩ => ⟨rV, P, e, kz _ q⟩
def T31 (s : ByteArray) (R : Bool → Prop) : Prop :=
  ∃ Jv_2 : Int → Prop,
  ( cnd (decide ((0 : Int) < ((s.size : Nat) : Int)))
   (0 ≤ (0 : Int) ∧ (0 : Int) < ((s.size : Nat) : Int) ∧ ∃ xc : UInt8, s[Int.toNat (0 : Int)]? = some xc ∧ cnd (((UInt8.toNat xc : Nat) : Int) == (43 : Int))
    (Jv_2 (IntKind.i64.wrap ((0 : Int) + (1 : Int))))
    (0 ≤ (0 : Int) ∧ (0 : Int) < ((s.size : Nat) : Int) ∧ ∃ xc2 : UInt8, s[Int.toNat (0 : Int)]? = some xc2 ∧ ∃ Jv : Int → Prop,
    ( cnd (((UInt8.toNat xc2 : Nat) : Int) == (45 : Int))
      (Jv (IntKind.i64.wrap ((0 : Int) + (1 : Int))))
      (Jv 0)) ∧
    ∀ atv : Int, Jv atv →
    Jv_2 atv))
   (Jv_2 0)) ∧
  ∀ atv2 : Int, Jv_2 atv2 →
  Ok40 s atv2 (fun r =>
  cnd (r == (0 : Int))
   (R false)
   (∃ Jv_3 : Int → Prop,
   ( cnd (decide ((IntKind.i64.wrap (atv2 + r)) < ((s.size : Nat) : Int)))
    (0 ≤ (IntKind.i64.wrap (atv2 + r)) ∧ (IntKind.i64.wrap (atv2 + r)) < ((s.size : Nat) : Int) ∧ ∃ xc3 : UInt8, s[Int.toNat (IntKind.i64.wrap (atv2 + r))]? = some xc3 ∧ ∃ Jv2 : Int → Prop,
    ( cnd (((UInt8.toNat xc3 : Nat) : Int) == (46 : Int))
      (Ok40 s (IntKind.i64.wrap ((IntKind.i64.wrap (atv2 + r)) + (1 : Int))) (fun r2 =>
      cnd (r2 == (0 : Int))
       (R false)
       (Jv2 (IntKind.i64.wrap ((IntKind.i64.wrap ((IntKind.i64.wrap (atv2 + r)) + (1 : Int))) + r2)))))
      (Jv2 (IntKind.i64.wrap (atv2 + r)))) ∧
    ∀ atv3 : Int, Jv2 atv3 →
    Jv_3 atv3)
    (Jv_3 (IntKind.i64.wrap (atv2 + r)))) ∧
   ∀ atv4 : Int, Jv_3 atv4 →
   ∃ Jv_4 : Int → Prop,
   ( cnd (decide (atv4 < ((s.size : Nat) : Int)))
    (0 ≤ atv4 ∧ atv4 < ((s.size : Nat) : Int) ∧ ∃ xc4 : UInt8, s[Int.toNat atv4]? = some xc4 ∧ cnd (((UInt8.toNat xc4 : Nat) : Int) == (101 : Int))
     (∃ Jv_5 : Int → Prop,
     ( cnd (decide ((IntKind.i64.wrap (atv4 + (1 : Int))) < ((s.size : Nat) : Int)))
       (0 ≤ (IntKind.i64.wrap (atv4 + (1 : Int))) ∧ (IntKind.i64.wrap (atv4 + (1 : Int))) < ((s.size : Nat) : Int) ∧ ∃ xc6 : UInt8, s[Int.toNat (IntKind.i64.wrap (atv4 + (1 : Int)))]? = some xc6 ∧ cnd (((UInt8.toNat xc6 : Nat) : Int) == (43 : Int))
        (Jv_5 (IntKind.i64.wrap ((IntKind.i64.wrap (atv4 + (1 : Int))) + (1 : Int))))
        (0 ≤ (IntKind.i64.wrap (atv4 + (1 : Int))) ∧ (IntKind.i64.wrap (atv4 + (1 : Int))) < ((s.size : Nat) : Int) ∧ ∃ xc7 : UInt8, s[Int.toNat (IntKind.i64.wrap (atv4 + (1 : Int)))]? = some xc7 ∧ ∃ Jv3 : Int → Prop,
        ( cnd (((UInt8.toNat xc7 : Nat) : Int) == (45 : Int))
         (Jv3 (IntKind.i64.wrap ((IntKind.i64.wrap (atv4 + (1 : Int))) + (1 : Int))))
         (Jv3 (IntKind.i64.wrap (atv4 + (1 : Int))))) ∧
        ∀ atv5 : Int, Jv3 atv5 →
        Jv_5 atv5))
       (Jv_5 (IntKind.i64.wrap (atv4 + (1 : Int))))) ∧
     ∀ atv6 : Int, Jv_5 atv6 →
     Ok40 s atv6 (fun r3 =>
     cnd (decide (r3 < (1 : Int)))
      (R false)
      (cnd (decide (r3 > (4 : Int)))
       (R false)
       (Jv_4 (IntKind.i64.wrap (atv6 + r3))))))
     (0 ≤ atv4 ∧ atv4 < ((s.size : Nat) : Int) ∧ ∃ xc5 : UInt8, s[Int.toNat atv4]? = some xc5 ∧ ∃ Jv4 : Int → Prop,
     ( cnd (((UInt8.toNat xc5 : Nat) : Int) == (69 : Int))
       (∃ Jv_6 : Int → Prop,
       ( cnd (decide ((IntKind.i64.wrap (atv4 + (1 : Int))) < ((s.size : Nat) : Int)))
        (0 ≤ (IntKind.i64.wrap (atv4 + (1 : Int))) ∧ (IntKind.i64.wrap (atv4 + (1 : Int))) < ((s.size : Nat) : Int) ∧ ∃ xc8 : UInt8, s[Int.toNat (IntKind.i64.wrap (atv4 + (1 : Int)))]? = some xc8 ∧ cnd (((UInt8.toNat xc8 : Nat) : Int) == (43 : Int))
         (Jv_6 (IntKind.i64.wrap ((IntKind.i64.wrap (atv4 + (1 : Int))) + (1 : Int))))
         (0 ≤ (IntKind.i64.wrap (atv4 + (1 : Int))) ∧ (IntKind.i64.wrap (atv4 + (1 : Int))) < ((s.size : Nat) : Int) ∧ ∃ xc9 : UInt8, s[Int.toNat (IntKind.i64.wrap (atv4 + (1 : Int)))]? = some xc9 ∧ ∃ Jv5 : Int → Prop,
         ( cnd (((UInt8.toNat xc9 : Nat) : Int) == (45 : Int))
           (Jv5 (IntKind.i64.wrap ((IntKind.i64.wrap (atv4 + (1 : Int))) + (1 : Int))))
           (Jv5 (IntKind.i64.wrap (atv4 + (1 : Int))))) ∧
         ∀ atv7 : Int, Jv5 atv7 →
         Jv_6 atv7))
        (Jv_6 (IntKind.i64.wrap (atv4 + (1 : Int))))) ∧
       ∀ atv8 : Int, Jv_6 atv8 →
       Ok40 s atv8 (fun r4 =>
       cnd (decide (r4 < (1 : Int)))
        (R false)
        (cnd (decide (r4 > (4 : Int)))
         (R false)
         (Jv4 (IntKind.i64.wrap (atv8 + r4))))))
       (Jv4 atv4)) ∧
     ∀ atv9 : Int, Jv4 atv9 →
     Jv_4 atv9))
    (Jv_4 atv4)) ∧
   ∀ atv10 : Int, Jv_4 atv10 →
   R (atv10 == ((s.size : Nat) : Int))))
theorem ok31 {s} {R : Bool → Prop} (T : T31 s R) : Ok31 s R := by
  intro h  H
  have Y : Sy h [] h _ := Sy.startM H rfl
  apply calls31
  unfold S31
  unfold T31 at T
  obtain ⟨Jv_2, T0, T1⟩ := T
  obtain ⟨B, hB, _⟩ := Y.cut [] [] rfl
  intro K
  have hK : ∀ (atv2 : Int) (hv2 : Heap), (Sy h [] hv2 ([] ++ B) ∧ Jv_2 atv2) → K atv2 hv2 := by
    subst hB
    clear T0 Y
    rintro atv2 hv2 ⟨Y, T⟩
    replace T := T1 atv2 T
    have Y : Sy _ _ _ [] := Y
    unfold K
    refine callX_sy (T _ (Hp.nil _)) (fun _ _ ⟨_, p, _⟩ => p.fr) alln ?_
    rintro v hv3 ⟨r, PP, rfl, T⟩
    have Y : Sy _ _ hv3 [] := Y.gr PP.fr
    clear PP
    refine ⟨r, rfl, ?_⟩
    refine cnd_imp T (fun T => ?_) (fun T => ?_)
    · exact ⟨_, Y.pick [] rfl, rfl, T⟩
    · obtain ⟨Jv_3, T0, T1⟩ := T
      obtain ⟨B_2, hB_2, _⟩ := Y.cut [] [] rfl
      intro K2
      have hK2 : ∀ (atv4 : Int) (hv6 : Heap), (Sy h [] hv6 ([] ++ B_2) ∧ Jv_3 atv4) → K2 atv4 hv6 := by
        subst hB_2
        clear T0 Y
        rintro atv4 hv6 ⟨Y, T⟩
        replace T := T1 atv4 T
        have Y : Sy _ _ _ [] := Y
        unfold K2
        obtain ⟨Jv_4, T0, T1⟩ := T
        obtain ⟨B_3, hB_3, _⟩ := Y.cut [] [] rfl
        intro K5
        have hK5 : ∀ (atv10 : Int) (hv14 : Heap), (Sy h [] hv14 ([] ++ B_3) ∧ Jv_4 atv10) → K5 atv10 hv14 := by
          subst hB_3
          clear T0 Y
          rintro atv10 hv14 ⟨Y, T⟩
          replace T := T1 atv10 T
          have Y : Sy _ _ _ [] := Y
          unfold K5
          exact ⟨_, Y.pick [] rfl, rfl, T⟩
        subst hB_3
        replace T := T0
        clear T0 T1
        refine cnd_imp T (fun T => ?_) (fun T => ?_)
        · obtain ⟨q_11, q_12, T⟩ := T
          refine ⟨q_11, q_12, ?_⟩
          obtain ⟨xc4, hq, T⟩ := T
          refine ⟨xc4, hq, ?_⟩
          refine cnd_imp T (fun T => ?_) (fun T => ?_)
          · obtain ⟨Jv_5, T0, T1⟩ := T
            obtain ⟨B_4, hB_4, _⟩ := Y.cut [] [] rfl
            intro K3
            have hK3 : ∀ (atv6 : Int) (hv8 : Heap), (Sy h [] hv8 ([] ++ B_4) ∧ Jv_5 atv6) → K3 atv6 hv8 := by
              subst hB_4
              clear T0 Y
              rintro atv6 hv8 ⟨Y, T⟩
              replace T := T1 atv6 T
              have Y : Sy _ _ _ [] := Y
              unfold K3
              refine callX_sy (T _ (Hp.nil _)) (fun _ _ ⟨_, p, _⟩ => p.fr) alln ?_
              rintro v3 hv9 ⟨r3, PP, rfl, T⟩
              have Y : Sy _ _ hv9 [] := Y.gr PP.fr
              clear PP
              refine ⟨r3, rfl, ?_⟩
              refine cnd_imp T (fun T => ?_) (fun T => ?_)
              · exact ⟨_, Y.pick [] rfl, rfl, T⟩
              · refine cnd_imp T (fun T => ?_) (fun T => ?_)
                · exact ⟨_, Y.pick [] rfl, rfl, T⟩
                · exact hK5 _ _ ⟨Y.pick [] rfl, T⟩
            subst hB_4
            replace T := T0
            clear T0 T1
            refine cnd_imp T (fun T => ?_) (fun T => ?_)
            · obtain ⟨q_3, q_4, T⟩ := T
              refine ⟨q_3, q_4, ?_⟩
              obtain ⟨xc6, hq, T⟩ := T
              refine ⟨xc6, hq, ?_⟩
              refine cnd_imp T (fun T => ?_) (fun T => ?_)
              · exact hK3 _ _ ⟨Y.pick [] rfl, T⟩
              · obtain ⟨q, q_2, T⟩ := T
                refine ⟨q, q_2, ?_⟩
                obtain ⟨xc7, hq, T⟩ := T
                refine ⟨xc7, hq, ?_⟩
                obtain ⟨Jv3, T0, T1⟩ := T
                obtain ⟨B_5, hB_5, _⟩ := Y.cut [] [] rfl
                refine ⟨fun lz h' => ∃ (atv5 : Int), lz = [.int .i64 atv5] ∧ Sy h [] h' ([] ++ B_5) ∧ Jv3 atv5, ?_, ?_⟩
                · subst hB_5
                  replace T := T0
                  clear T0 T1
                  refine cnd_imp T (fun T => ?_) (fun T => ?_)
                  · exact ⟨_, rfl, Y.pick [] rfl, T⟩
                  · exact ⟨_, rfl, Y.pick [] rfl, T⟩
                · subst hB_5
                  clear T0 Y
                  rintro atv5 hv7 ⟨atv5, e, Y, T⟩
                  cases e
                  replace T := T1 atv5 T
                  have Y : Sy _ _ _ [] := Y
                  exact hK3 _ _ ⟨Y.pick [] rfl, T⟩
            · exact hK3 _ _ ⟨Y.pick [] rfl, T⟩
          · obtain ⟨q_9, q_10, T⟩ := T
            refine ⟨q_9, q_10, ?_⟩
            obtain ⟨xc5, hq, T⟩ := T
            refine ⟨xc5, hq, ?_⟩
            obtain ⟨Jv4, T0, T1⟩ := T
            obtain ⟨B_6, hB_6, _⟩ := Y.cut [] [] rfl
            refine ⟨fun lz h' => ∃ (atv9 : Int), lz = [.int .i64 atv9] ∧ Sy h [] h' ([] ++ B_6) ∧ Jv4 atv9, ?_, ?_⟩
            · subst hB_6
              replace T := T0
              clear T0 T1
              refine cnd_imp T (fun T => ?_) (fun T => ?_)
              · obtain ⟨Jv_6, T0, T1⟩ := T
                obtain ⟨B_7, hB_7, _⟩ := Y.cut [] [] rfl
                intro K4
                have hK4 : ∀ (atv8 : Int) (hv11 : Heap), (Sy h [] hv11 ([] ++ B_7) ∧ Jv_6 atv8) → K4 atv8 hv11 := by
                  subst hB_7
                  clear T0 Y
                  rintro atv8 hv11 ⟨Y, T⟩
                  replace T := T1 atv8 T
                  have Y : Sy _ _ _ [] := Y
                  unfold K4
                  refine callX_sy (T _ (Hp.nil _)) (fun _ _ ⟨_, p, _⟩ => p.fr) alln ?_
                  rintro v4 hv12 ⟨r4, PP, rfl, T⟩
                  have Y : Sy _ _ hv12 [] := Y.gr PP.fr
                  clear PP
                  refine ⟨r4, rfl, ?_⟩
                  refine cnd_imp T (fun T => ?_) (fun T => ?_)
                  · exact ⟨_, Y.pick [] rfl, rfl, T⟩
                  · refine cnd_imp T (fun T => ?_) (fun T => ?_)
                    · exact ⟨_, Y.pick [] rfl, rfl, T⟩
                    · exact ⟨_, rfl, Y.pick [] rfl, T⟩
                subst hB_7
                replace T := T0
                clear T0 T1
                refine cnd_imp T (fun T => ?_) (fun T => ?_)
                · obtain ⟨q_7, q_8, T⟩ := T
                  refine ⟨q_7, q_8, ?_⟩
                  obtain ⟨xc8, hq, T⟩ := T
                  refine ⟨xc8, hq, ?_⟩
                  refine cnd_imp T (fun T => ?_) (fun T => ?_)
                  · exact hK4 _ _ ⟨Y.pick [] rfl, T⟩
                  · obtain ⟨q_5, q_6, T⟩ := T
                    refine ⟨q_5, q_6, ?_⟩
                    obtain ⟨xc9, hq, T⟩ := T
                    refine ⟨xc9, hq, ?_⟩
                    obtain ⟨Jv5, T0, T1⟩ := T
                    obtain ⟨B_8, hB_8, _⟩ := Y.cut [] [] rfl
                    refine ⟨fun lz h' => ∃ (atv7 : Int), lz = [.int .i64 atv7] ∧ Sy h [] h' ([] ++ B_8) ∧ Jv5 atv7, ?_, ?_⟩
                    · subst hB_8
                      replace T := T0
                      clear T0 T1
                      refine cnd_imp T (fun T => ?_) (fun T => ?_)
                      · exact ⟨_, rfl, Y.pick [] rfl, T⟩
                      · exact ⟨_, rfl, Y.pick [] rfl, T⟩
                    · subst hB_8
                      clear T0 Y
                      rintro atv7 hv10 ⟨atv7, e, Y, T⟩
                      cases e
                      replace T := T1 atv7 T
                      have Y : Sy _ _ _ [] := Y
                      exact hK4 _ _ ⟨Y.pick [] rfl, T⟩
                · exact hK4 _ _ ⟨Y.pick [] rfl, T⟩
              · exact ⟨_, rfl, Y.pick [] rfl, T⟩
            · subst hB_6
              clear T0 Y
              rintro atv9 hv13 ⟨atv9, e, Y, T⟩
              cases e
              replace T := T1 atv9 T
              have Y : Sy _ _ _ [] := Y
              exact hK5 _ _ ⟨Y.pick [] rfl, T⟩
        · exact hK5 _ _ ⟨Y.pick [] rfl, T⟩
      subst hB_2
      replace T := T0
      clear T0 T1
      refine cnd_imp T (fun T => ?_) (fun T => ?_)
      · obtain ⟨q_13, q_14, T⟩ := T
        refine ⟨q_13, q_14, ?_⟩
        obtain ⟨xc3, hq, T⟩ := T
        refine ⟨xc3, hq, ?_⟩
        obtain ⟨Jv2, T0, T1⟩ := T
        obtain ⟨B_9, hB_9, _⟩ := Y.cut [] [] rfl
        refine ⟨fun lz h' => ∃ (atv3 : Int), lz = [.int .i64 atv3] ∧ Sy h [] h' ([] ++ B_9) ∧ Jv2 atv3, ?_, ?_⟩
        · subst hB_9
          replace T := T0
          clear T0 T1
          refine cnd_imp T (fun T => ?_) (fun T => ?_)
          · refine callX_sy (T _ (Hp.nil _)) (fun _ _ ⟨_, p, _⟩ => p.fr) alln ?_
            rintro v2 hv4 ⟨r2, PP, rfl, T⟩
            have Y : Sy _ _ hv4 [] := Y.gr PP.fr
            clear PP
            refine ⟨r2, rfl, ?_⟩
            refine cnd_imp T (fun T => ?_) (fun T => ?_)
            · exact ⟨_, Y.pick [] rfl, rfl, T⟩
            · exact ⟨_, rfl, Y.pick [] rfl, T⟩
          · exact ⟨_, rfl, Y.pick [] rfl, T⟩
        · subst hB_9
          clear T0 Y
          rintro atv3 hv5 ⟨atv3, e, Y, T⟩
          cases e
          replace T := T1 atv3 T
          have Y : Sy _ _ _ [] := Y
          exact hK2 _ _ ⟨Y.pick [] rfl, T⟩
      · exact hK2 _ _ ⟨Y.pick [] rfl, T⟩
  subst hB
  replace T := T0
  clear T0 T1
  refine cnd_imp T (fun T => ?_) (fun T => ?_)
  · obtain ⟨q_17, q_18, T⟩ := T
    refine ⟨q_17, q_18, ?_⟩
    obtain ⟨xc, hq, T⟩ := T
    refine ⟨xc, hq, ?_⟩
    refine cnd_imp T (fun T => ?_) (fun T => ?_)
    · exact hK _ _ ⟨Y.pick [] rfl, T⟩
    · obtain ⟨q_15, q_16, T⟩ := T
      refine ⟨q_15, q_16, ?_⟩
      obtain ⟨xc2, hq, T⟩ := T
      refine ⟨xc2, hq, ?_⟩
      obtain ⟨Jv, T0, T1⟩ := T
      obtain ⟨B_10, hB_10, _⟩ := Y.cut [] [] rfl
      refine ⟨fun lz h' => ∃ (atv : Int), lz = [.int .i64 atv] ∧ Sy h [] h' ([] ++ B_10) ∧ Jv atv, ?_, ?_⟩
      · subst hB_10
        replace T := T0
        clear T0 T1
        refine cnd_imp T (fun T => ?_) (fun T => ?_)
        · exact ⟨_, rfl, Y.pick [] rfl, T⟩
        · exact ⟨_, rfl, Y.pick [] rfl, T⟩
      · subst hB_10
        clear T0 Y
        rintro atv hv ⟨atv, e, Y, T⟩
        cases e
        replace T := T1 atv T
        have Y : Sy _ _ _ [] := Y
        exact hK _ _ ⟨Y.pick [] rfl, T⟩
  · exact hK _ _ ⟨Y.pick [] rfl, T⟩
/-- strconv.ParseFloat -/
def S28 (s : ByteArray) (bitSize : Int) (h : Heap) (R : Value → Heap → Prop) : Prop :=
  callX Tryz.prog 37 #[.string s, .int .i64 bitSize] h [] fun v hv =>
  ∃ ra : Nat, ((v = .tuple #[.float .f64 ra, .nilIface] ∧
   cnd (!true)
    (callX Tryz.prog 38 #[.string (⟨#[80, 97, 114, 115, 101, 70, 108, 111, 97, 116]⟩ : ByteArray), .string s, .int .i64 0, .int .i64 bitSize, .nilIface] hv [] fun v2 hv2 =>
    ((v2 = .nilIface ∧
     R (.tuple #[.float .f64 ra, .nilIface]) hv2)
    ∨ ∃ (rT : Nat) (rI : Value), v2 = .iface rT rI ∧
     R (.tuple #[.float .f64 ra, .iface rT rI]) hv2))
    (R (.tuple #[.float .f64 ra, .nilIface]) hv))
  ∨ ∃ (rbT : Nat) (rbI : Value), v = .tuple #[.float .f64 ra, .iface rbT rbI] ∧
   cnd (!false)
    (callX Tryz.prog 38 #[.string (⟨#[80, 97, 114, 115, 101, 70, 108, 111, 97, 116]⟩ : ByteArray), .string s, .int .i64 0, .int .i64 bitSize, .iface rbT rbI] hv [] fun v3 hv3 =>
    ((v3 = .nilIface ∧
     R (.tuple #[.float .f64 ra, .nilIface]) hv3)
    ∨ ∃ (rT2 : Nat) (rI2 : Value), v3 = .iface rT2 rI2 ∧
     R (.tuple #[.float .f64 ra, .iface rT2 rI2]) hv3))
    (R (.tuple #[.float .f64 ra, .nilIface]) hv))
theorem calls28 {h : Heap} {R : Value → Heap → Prop} (s : ByteArray) (bitSize : Int) (H : S28 s bitSize h R) : CallsH Tryz.prog 28 #[.string s, .int .i64 bitSize] h R := by
  have e : S28 s bitSize h R = FX (envX [] 22) { loops := [], joins := [], blocks := [], draws := [] } Tryz.f28 (Tryz.f28.body.getD .skip) [.string s, .int .i64 bitSize] h R := by kernel_rfl
  exact calls_of_FX (envX_ok _ _) Tryz.func28 (by kernel_rfl) (by kernel_rfl) (by kernel_rfl) (e ▸ H)
/-- tracery/weigh.Read -/
def S10 (s : ByteArray) (h : Heap) (R : Value → Heap → Prop) : Prop :=
  cnd (s.toList == (⟨#[78, 97, 78]⟩ : ByteArray).toList)
   (callE Tryz.prog 13 #[.int .u64 9221120237041090561] fun v =>
   ∃ r : Nat, v = .float .f64 r ∧
   R (.tuple #[.float .f64 r, .int .i64 0]) h)
   (cnd (s.toList == (⟨#[73, 78, 70]⟩ : ByteArray).toList)
    (callX Tryz.prog 26 #[.int .i64 1] h [] fun v2 hv =>
    ∃ r2 : Nat, v2 = .float .f64 r2 ∧
    R (.tuple #[.float .f64 r2, .int .i64 0]) hv)
    (cnd (s.toList == (⟨#[45, 73, 78, 70]⟩ : ByteArray).toList)
     (callX Tryz.prog 26 #[.int .i64 (-1)] h [] fun v3 hv2 =>
     ∃ r3 : Nat, v3 = .float .f64 r3 ∧
     R (.tuple #[.float .f64 r3, .int .i64 0]) hv2)
     (callX Tryz.prog 27 #[.string s] h [] fun v4 hv3 =>
     ∃ r4 : Bool, v4 = .bool r4 ∧
     cnd (!r4)
      (R (.tuple #[.float .f64 0, .int .i64 17]) hv3)
      (cnd (decide (((s.size : Nat) : Int) > (64 : Int)))
       (R (.tuple #[.float .f64 0, .int .i64 23]) hv3)
       (let K := fun (x : Nat) (hv5 : Heap) =>
        (callX Tryz.prog 29 #[.float .f64 x, .int .i64 0] hv5 [] fun v6 hv6 =>
        ∃ r5 : Bool, v6 = .bool r5 ∧
        cnd r5
         (R (.tuple #[.float .f64 0, .int .i64 2]) hv6)
         (R (.tuple #[.float .f64 x, .int .i64 0]) hv6))
       callX Tryz.prog 28 #[.string s, .int .i64 64] hv3 [] fun v5 hv4 =>
       ∃ ra : Nat, ((v5 = .tuple #[.float .f64 ra, .nilIface] ∧
        K ra hv4)
       ∨ ∃ (rbT : Nat) (rbI : Value), v5 = .tuple #[.float .f64 ra, .iface rbT rbI] ∧
        K ra hv4))))))
theorem calls10 {h : Heap} {R : Value → Heap → Prop} (s : ByteArray) (H : S10 s h R) : CallsH Tryz.prog 10 #[.string s] h R := by
  have e : S10 s h R = FX (envX [] 32) { loops := [], joins := [], blocks := [], draws := [] } Tryz.f10 (Tryz.f10.body.getD .skip) [.string s] h R := by kernel_rfl
  exact calls_of_FX (envX_ok _ _) Tryz.func10 (by kernel_rfl) (by kernel_rfl) (by kernel_rfl) (e ▸ H)
/-- tracery/traceryref1.Read -/
def S11 (s : ByteArray) (h : Heap) (R : Value → Heap → Prop) : Prop :=
  cnd (s.toList == (⟨#[78, 97, 78]⟩ : ByteArray).toList)
   (callX Tryz.prog 30 #[] h [] fun v hv =>
   ∃ r : Nat, v = .float .f64 r ∧
   R (.tuple #[.float .f64 r, .int .i64 0]) hv)
   (cnd (s.toList == (⟨#[73, 78, 70]⟩ : ByteArray).toList)
    (callX Tryz.prog 26 #[.int .i64 1] h [] fun v2 hv2 =>
    ∃ r2 : Nat, v2 = .float .f64 r2 ∧
    R (.tuple #[.float .f64 r2, .int .i64 0]) hv2)
    (cnd (s.toList == (⟨#[45, 73, 78, 70]⟩ : ByteArray).toList)
     (callX Tryz.prog 26 #[.int .i64 (-1)] h [] fun v3 hv3 =>
     ∃ r3 : Nat, v3 = .float .f64 r3 ∧
     R (.tuple #[.float .f64 r3, .int .i64 0]) hv3)
     (callX Tryz.prog 31 #[.string s] h [] fun v4 hv4 =>
     ∃ r4 : Bool, v4 = .bool r4 ∧
     cnd (!r4)
      (R (.tuple #[.float .f64 0, .int .i64 17]) hv4)
      (cnd (decide (((s.size : Nat) : Int) > (64 : Int)))
       (R (.tuple #[.float .f64 0, .int .i64 23]) hv4)
       (let K := fun (x : Nat) (hv6 : Heap) =>
        (callX Tryz.prog 29 #[.float .f64 x, .int .i64 0] hv6 [] fun v6 hv7 =>
        ∃ r5 : Bool, v6 = .bool r5 ∧
        cnd r5
         (R (.tuple #[.float .f64 0, .int .i64 2]) hv7)
         (R (.tuple #[.float .f64 x, .int .i64 0]) hv7))
       callX Tryz.prog 28 #[.string s, .int .i64 64] hv4 [] fun v5 hv5 =>
       ∃ ra : Nat, ((v5 = .tuple #[.float .f64 ra, .nilIface] ∧
        K ra hv5)
       ∨ ∃ (rbT : Nat) (rbI : Value), v5 = .tuple #[.float .f64 ra, .iface rbT rbI] ∧
        K ra hv5))))))
theorem calls11 {h : Heap} {R : Value → Heap → Prop} (s : ByteArray) (H : S11 s h R) : CallsH Tryz.prog 11 #[.string s] h R := by
  have e : S11 s h R = FX (envX [] 30) { loops := [], joins := [], blocks := [], draws := [] } Tryz.f11 (Tryz.f11.body.getD .skip) [.string s] h R := by kernel_rfl
  exact calls_of_FX (envX_ok _ _) Tryz.func11 (by kernel_rfl) (by kernel_rfl) (by kernel_rfl) (e ▸ H)
/-- tracery/weigh.Read -/
def Ok10 (s : ByteArray) (R : Nat → Int → Prop) : Prop :=
  ∀ (h : Heap) (gl : GL), Hp h [Ck.glob gl] → CallsH Tryz.prog 10 #[.string s] h fun v h' => ∃ (raV : Nat) (rbV : Int), Sy h [] h' [] ∧ v = .tuple #[.float .f64 raV, .int .i64 rbV] ∧ R raV rbV
theorem Ok10.mono {s} {R R' : Nat → Int → Prop} (H : Ok10 s R) (kz : ∀ raV rbV, R raV rbV → R' raV rbV) : Ok10 s R' :=
  fun h gl hp => (H h gl hp).mono fun _ _ ⟨raV, rbV, P, e, q⟩ => ⟨raV, rbV, P, e, kz _ _ q⟩
/-- tracery/traceryref1.Read -/
def Ok11 (s : ByteArray) (R : Nat → Int → Prop) : Prop :=
  ∀ (h : Heap) (gl : GL), Hp h [Ck.glob gl] → CallsH Tryz.prog 11 #[.string s] h fun v h' => ∃ (raV : Nat) (rbV : Int), Sy h [] h' [] ∧ v = .tuple #[.float .f64 raV, .int .i64 rbV] ∧ R raV rbV
theorem Ok11.mono {s} {R R' : Nat → Int → Prop} (H : Ok11 s R) (kz : ∀ raV rbV, R raV rbV → R' raV rbV) : Ok11 s R' :=
  fun h gl hp => (H h gl hp).mono fun _ _ ⟨raV, rbV, P, e, q⟩ => ⟨raV, rbV, P, e, kz _ _ q⟩
/-- tracery/weigh.Text -/
def S16 (x : Nat) (h : Heap) (R : Value → Heap → Prop) : Prop :=
  cnd ((FloatKind.f64).format.order x x != some .eq)
   (R (.string (⟨#[78, 97, 78]⟩ : ByteArray)) h)
   (callX Tryz.prog 29 #[.float .f64 x, .int .i64 1] h [] fun v hv =>
   ∃ r : Bool, v = .bool r ∧
   cnd r
    (R (.string (⟨#[73, 78, 70]⟩ : ByteArray)) hv)
    (callX Tryz.prog 29 #[.float .f64 x, .int .i64 (-1)] hv [] fun v2 hv2 =>
    ∃ r2 : Bool, v2 = .bool r2 ∧
    cnd r2
     (R (.string (⟨#[45, 73, 78, 70]⟩ : ByteArray)) hv2)
     (callX Tryz.prog 33 #[.float .f64 x, .int .u8 103, .int .i64 (-1), .int .i64 64] hv2 [] fun v3 hv3 =>
     ∃ r3 : ByteArray, v3 = .string r3 ∧
     callX Tryz.prog 34 #[.string r3, .string (⟨#[46, 101]⟩ : ByteArray)] hv3 [] fun v4 hv4 =>
     ∃ r4 : Bool, v4 = .bool r4 ∧
     ∃ Jv : List Value → Heap → Prop,
     ( cnd (!r4)
      ((((r3.size + (⟨#[46, 48]⟩ : ByteArray).size : Nat)) : Int) ≤ 9223372036854775807 ∧ Jv [.string (r3 ++ (⟨#[46, 48]⟩ : ByteArray))] hv4)
      (Jv [.string r3] hv4)) ∧
     ∀ s : ByteArray, ∀ hv5, Jv [.string s] hv5 →
     R (.string s) hv5)))
theorem calls16 {h : Heap} {R : Value → Heap → Prop} (x : Nat) (H : S16 x h R) : CallsH Tryz.prog 16 #[.float .f64 x] h R := by
  have e : S16 x h R = FX (envX [] 22) { loops := [], joins := [(18, ⟨[], [3], [], []⟩)], blocks := [], draws := [] } Tryz.f16 (Tryz.f16.body.getD .skip) [.float .f64 x] h R := by kernel_rfl
  exact calls_of_FX (envX_ok _ _) Tryz.func16 (by kernel_rfl) (by kernel_rfl) (by kernel_rfl) (e ▸ H)
/-- tracery/weigh.Text -/
def Ok16 (x : Nat) (R : ByteArray → Prop) : Prop :=
  ∀ (h : Heap) (gl : GL), Hp h [Ck.glob gl] → CallsH Tryz.prog 16 #[.float .f64 x] h fun v h' => ∃ (rV : ByteArray), Sy h [] h' [] ∧ v = .string rV ∧ R rV
theorem Ok16.mono {x} {R R' : ByteArray → Prop} (H : Ok16 x R) (kz : ∀ rV, R rV → R' rV) : Ok16 x R' :=
  fun h gl hp => (H h gl hp).mono fun _ _ ⟨rV, P, e, q⟩ => ⟨rV, P, e, kz _ q⟩
def T16 (x : Nat) (R : ByteArray → Prop) : Prop :=
  cnd ((FloatKind.f64).format.order x x != some .eq)
   (R (⟨#[78, 97, 78]⟩ : ByteArray))
   (Ok29 x 1 (fun r =>
   cnd r
    (R (⟨#[73, 78, 70]⟩ : ByteArray))
    (Ok29 x (-1) (fun r2 =>
    cnd r2
     (R (⟨#[45, 73, 78, 70]⟩ : ByteArray))
     (Ok33 x 103 (-1) 64 (fun r3 =>
     Ok34 r3 (⟨#[46, 101]⟩ : ByteArray) (fun r4 =>
     ∃ Jv : ByteArray → Prop,
     ( cnd (!r4)
      ((((r3.size + (⟨#[46, 48]⟩ : ByteArray).size : Nat)) : Int) ≤ 9223372036854775807 ∧ Jv (r3 ++ (⟨#[46, 48]⟩ : ByteArray)))
      (Jv r3)) ∧
     ∀ s : ByteArray, Jv s →
     R s)))))))
theorem ok16 {x} {R : ByteArray → Prop} (T : T16 x R) : Ok16 x R := by
  intro h gl H
  have Y : Sy h [] h _ := Sy.startM H rfl
  apply calls16
  unfold S16
  unfold T16 at T
  refine cnd_imp T (fun T => ?_) (fun T => ?_)
  · exact ⟨_, Y.pick [] rfl, rfl, T⟩
  · refine callX_sy (T _ (Hp.nil _)) (fun _ _ ⟨_, p, _⟩ => p.fr) alln ?_
    rintro v hv ⟨r, PP, rfl, T⟩
    have Y : Sy _ _ hv [_] := Y.gr PP.fr
    clear PP
    refine ⟨r, rfl, ?_⟩
    refine cnd_imp T (fun T => ?_) (fun T => ?_)
    · exact ⟨_, Y.pick [] rfl, rfl, T⟩
    · refine callX_sy (T _ (Hp.nil _)) (fun _ _ ⟨_, p, _⟩ => p.fr) alln ?_
      rintro v2 hv2 ⟨r2, PP, rfl, T⟩
      have Y : Sy _ _ hv2 [_] := Y.gr PP.fr
      clear PP
      refine ⟨r2, rfl, ?_⟩
      refine cnd_imp T (fun T => ?_) (fun T => ?_)
      · exact ⟨_, Y.pick [] rfl, rfl, T⟩
      · refine callX_sy (T _ _ (Y.pick [0] rfl).hp) (fun _ _ ⟨_, p, _⟩ => p.fr) alln ?_
        rintro v3 hv3 ⟨r3, PP, rfl, T⟩
        have Y : Sy _ _ hv3 [_] := Y.gr PP.fr
        clear PP
        refine ⟨r3, rfl, ?_⟩
        refine callX_sy (T _ (Hp.nil _)) (fun _ _ ⟨_, p, _⟩ => p.fr) alln ?_
        rintro v4 hv4 ⟨r4, PP, rfl, T⟩
        have Y : Sy _ _ hv4 [_] := Y.gr PP.fr
        clear PP
        refine ⟨r4, rfl, ?_⟩
        obtain ⟨Jv, T0, T1⟩ := T
        obtain ⟨B, hB, _⟩ := Y.cut [] [0] rfl
        refine ⟨fun lz h' => ∃ (s : ByteArray), lz = [.string s] ∧ Sy h [] h' ([] ++ B) ∧ Jv s, ?_, ?_⟩
        · subst hB
          replace T := T0
          clear T0 T1
          refine cnd_imp T (fun T => ?_) (fun T => ?_)
          · obtain ⟨q, T⟩ := T
            refine ⟨q, ?_⟩
            exact ⟨_, rfl, Y.pick [0] rfl, T⟩
          · exact ⟨_, rfl, Y.pick [0] rfl, T⟩
        · subst hB
          clear T0 Y
          rintro s hv5 ⟨s, e, Y, T⟩
          cases e
          replace T := T1 s T
          have Y : Sy _ _ _ [_] := Y
          exact ⟨_, Y.pick [] rfl, rfl, T⟩
/-- tracery/tracerylaw1.begun -/
def S9  (h : Heap) (R : Value → Heap → Prop) : Prop :=
  callX Tryz.prog 10 #[.string (⟨#[43, 49, 46, 53, 48]⟩ : ByteArray)] h [] fun v hv =>
  ∃ ra : Nat, ∃ rb : Int, v = .tuple #[.float .f64 ra, .int .i64 rb] ∧
  callX Tryz.prog 10 #[.string (⟨#[105, 110, 102]⟩ : ByteArray)] hv [] fun v2 hv2 =>
  ∃ ra2 : Nat, ∃ rb2 : Int, v2 = .tuple #[.float .f64 ra2, .int .i64 rb2] ∧
  let K := fun (hv8 : Heap) =>
   (R (.bool false) hv8)
  callX Tryz.prog 18 #[.float .f64 4607182418800017408] hv2 [] fun v3 hv3 =>
  ∃ r : Bool, v3 = .bool r ∧
  cnd r
   (callX Tryz.prog 18 #[.float .f64 13830554455654793216] hv3 [] fun v4 hv4 =>
   ∃ r2 : Bool, v4 = .bool r2 ∧
   cnd (!r2)
    (callX Tryz.prog 16 #[.float .f64 4591870180066957722] hv4 [] fun v5 hv5 =>
    ∃ r3 : ByteArray, v5 = .string r3 ∧
    cnd (r3.toList == (⟨#[48, 46, 49]⟩ : ByteArray).toList)
     (callX Tryz.prog 16 #[.float .f64 4607182418800017408] hv5 [] fun v6 hv6 =>
     ∃ r4 : ByteArray, v6 = .string r4 ∧
     cnd (r4.toList == (⟨#[49, 46, 48]⟩ : ByteArray).toList)
      (cnd ((FloatKind.f64).format.order ra 4609434218613702656 == some .eq)
       (cnd (rb == (0 : Int))
        (cnd (rb2 == (17 : Int))
         (callX Tryz.prog 14 #[.float .f64 4607182418800017408, .float .f64 4611686018427387904] hv6 [] fun v7 hv7 =>
         ∃ r5 : Bool, v7 = .bool r5 ∧
         R (.bool r5) hv7)
         (K hv6))
        (K hv6))
       (K hv6))
      (K hv6))
     (K hv5))
    (K hv4))
   (K hv3)
theorem calls9 {h : Heap} {R : Value → Heap → Prop}  (H : S9  h R) : CallsH Tryz.prog 9 #[] h R := by
  have e : S9  h R = FX (envX [] 41) { loops := [], joins := [], blocks := [], draws := [] } Tryz.f9 (Tryz.f9.body.getD .skip) [] h R := by kernel_rfl
  exact calls_of_FX (envX_ok _ _) Tryz.func9 (by kernel_rfl) (by kernel_rfl) (by kernel_rfl) (e ▸ H)
/-- tracery/tracerylaw1.begun -/
def Ok9  (R : Bool → Prop) : Prop :=
  ∀ (h : Heap) (gl : GL), Hp h [Ck.glob gl] → CallsH Tryz.prog 9 #[] h fun v h' => ∃ (rV : Bool), Sy h [] h' [] ∧ v = .bool rV ∧ R rV
theorem Ok9.mono {R R' : Bool → Prop} (H : Ok9  R) (kz : ∀ rV, R rV → R' rV) : Ok9  R' :=
  fun h gl hp => (H h gl hp).mono fun _ _ ⟨rV, P, e, q⟩ => ⟨rV, P, e, kz _ q⟩
def T9  (R : Bool → Prop) : Prop :=
  Ok10 (⟨#[43, 49, 46, 53, 48]⟩ : ByteArray) (fun ra rb =>
  Ok10 (⟨#[105, 110, 102]⟩ : ByteArray) (fun ra2 rb2 =>
  ∃ Jv : Prop,
  ( Ok18 4607182418800017408 (fun r =>
  cnd r
   (Ok18 13830554455654793216 (fun r2 =>
   cnd (!r2)
    (Ok16 4591870180066957722 (fun r3 =>
    cnd (r3.toList == (⟨#[48, 46, 49]⟩ : ByteArray).toList)
     (Ok16 4607182418800017408 (fun r4 =>
     cnd (r4.toList == (⟨#[49, 46, 48]⟩ : ByteArray).toList)
      (cnd ((FloatKind.f64).format.order ra 4609434218613702656 == some .eq)
       (cnd (rb == (0 : Int))
        (cnd (rb2 == (17 : Int))
         (Ok14 4607182418800017408 4611686018427387904 (fun r5 =>
         R r5))
         (Jv))
        (Jv))
       (Jv))
      (Jv)))
     (Jv)))
    (Jv)))
   (Jv))) ∧
  (Jv →
  R false)))
theorem ok9 {R : Bool → Prop} (T : T9  R) : Ok9  R := by
  intro h gl H
  have Y : Sy h [] h _ := Sy.startM H rfl
  apply calls9
  unfold S9
  unfold T9 at T
  refine callX_sy (T _ _ (Y.pick [0] rfl).hp) (fun _ _ ⟨_, _, p, _⟩ => p.fr) alln ?_
  rintro v hv ⟨ra, rb, PP, rfl, T⟩
  have Y : Sy _ _ hv [_] := Y.gr PP.fr
  clear PP
  refine ⟨ra, rb, rfl, ?_⟩
  refine callX_sy (T _ _ (Y.pick [0] rfl).hp) (fun _ _ ⟨_, _, p, _⟩ => p.fr) alln ?_
  rintro v2 hv2 ⟨ra2, rb2, PP, rfl, T⟩
  have Y : Sy _ _ hv2 [_] := Y.gr PP.fr
  clear PP
  refine ⟨ra2, rb2, rfl, ?_⟩
  obtain ⟨Jv, T0, T1⟩ := T
  obtain ⟨B, hB, _⟩ := Y.cut [] [0] rfl
  intro K
  have hK : ∀  (hv8 : Heap), (Sy h [] hv8 ([] ++ B) ∧ Jv) → K hv8 := by
    subst hB
    clear T0 Y
    rintro hv8 ⟨Y, T⟩
    replace T := T1 T
    have Y : Sy _ _ _ [_] := Y
    unfold K
    exact ⟨_, Y.pick [] rfl, rfl, T⟩
  subst hB
  replace T := T0
  clear T0 T1
  refine callX_sy (T _ (Hp.nil _)) (fun _ _ ⟨_, p, _⟩ => p.fr) alln ?_
  rintro v3 hv3 ⟨r, PP, rfl, T⟩
  have Y : Sy _ _ hv3 [_] := Y.gr PP.fr
  clear PP
  refine ⟨r, rfl, ?_⟩
  refine cnd_imp T (fun T => ?_) (fun T => ?_)
  · refine callX_sy (T _ (Hp.nil _)) (fun _ _ ⟨_, p, _⟩ => p.fr) alln ?_
    rintro v4 hv4 ⟨r2, PP, rfl, T⟩
    have Y : Sy _ _ hv4 [_] := Y.gr PP.fr
    clear PP
    refine ⟨r2, rfl, ?_⟩
    refine cnd_imp T (fun T => ?_) (fun T => ?_)
    · refine callX_sy (T _ _ (Y.pick [0] rfl).hp) (fun _ _ ⟨_, p, _⟩ => p.fr) alln ?_
      rintro v5 hv5 ⟨r3, PP, rfl, T⟩
      have Y : Sy _ _ hv5 [_] := Y.gr PP.fr
      clear PP
      refine ⟨r3, rfl, ?_⟩
      refine cnd_imp T (fun T => ?_) (fun T => ?_)
      · refine callX_sy (T _ _ (Y.pick [0] rfl).hp) (fun _ _ ⟨_, p, _⟩ => p.fr) alln ?_
        rintro v6 hv6 ⟨r4, PP, rfl, T⟩
        have Y : Sy _ _ hv6 [_] := Y.gr PP.fr
        clear PP
        refine ⟨r4, rfl, ?_⟩
        refine cnd_imp T (fun T => ?_) (fun T => ?_)
        · refine cnd_imp T (fun T => ?_) (fun T => ?_)
          · refine cnd_imp T (fun T => ?_) (fun T => ?_)
            · refine cnd_imp T (fun T => ?_) (fun T => ?_)
              · refine callX_sy (T _ (Hp.nil _)) (fun _ _ ⟨_, p, _⟩ => p.fr) alln ?_
                rintro v7 hv7 ⟨r5, PP, rfl, T⟩
                have Y : Sy _ _ hv7 [_] := Y.gr PP.fr
                clear PP
                refine ⟨r5, rfl, ?_⟩
                exact ⟨_, Y.pick [] rfl, rfl, T⟩
              · exact hK _ ⟨Y.pick [0] rfl, T⟩
            · exact hK _ ⟨Y.pick [0] rfl, T⟩
          · exact hK _ ⟨Y.pick [0] rfl, T⟩
        · exact hK _ ⟨Y.pick [0] rfl, T⟩
      · exact hK _ ⟨Y.pick [0] rfl, T⟩
    · exact hK _ ⟨Y.pick [0] rfl, T⟩
  · exact hK _ ⟨Y.pick [0] rfl, T⟩
/-- tracery/tracerylaw1.WeighReads -/
def S3 (ssA : Option Addr) (ssL ssC : Nat) (h : Heap) (R : Value → Heap → Prop) : Prop :=
  callX Tryz.prog 9 #[] h [] fun v hv =>
  ∃ r : Bool, v = .bool r ∧
  cnd (!r)
   (R (.bool false) hv)
   (let K := fun (hv6 : Heap) =>
    (R (.bool true) hv6)
   ∃ (Iv : List Value → Heap → Prop) (m : List Value → Heap → Nat), Iv [.int .i64 0] hv ∧
   ∀ i : Int, ∀ hv2, Iv [.int .i64 i] hv2 →
   cnd (decide (i < ((ssL : Nat) : Int)))
    (cnd (decide (i < (40 : Int)))
     (∃ b o, ssA = some ⟨b, o, none⟩ ∧ 0 ≤ i ∧ i < (ssL : Nat) ∧ ∃ x : ByteArray, hcell hv2 b (o + (Int.toNat i) * 1) = some (.string x) ∧ callX Tryz.prog 10 #[.string x] hv2 [] fun v2 hv3 =>
     ∃ ra : Nat, ∃ rb : Int, v2 = .tuple #[.float .f64 ra, .int .i64 rb] ∧
     ∃ b2 o2, ssA = some ⟨b2, o2, none⟩ ∧ 0 ≤ i ∧ i < (ssL : Nat) ∧ ∃ x2 : ByteArray, hcell hv3 b2 (o2 + (Int.toNat i) * 1) = some (.string x2) ∧ callX Tryz.prog 11 #[.string x2] hv3 [] fun v3 hv4 =>
     ∃ ra2 : Nat, ∃ rb2 : Int, v3 = .tuple #[.float .f64 ra2, .int .i64 rb2] ∧
     callX Tryz.prog 12 #[.float .f64 ra, .float .f64 ra2] hv4 [] fun v4 hv5 =>
     ∃ r2 : Bool, v4 = .bool r2 ∧
     cnd (!r2)
      (R (.bool false) hv5)
      (cnd (rb != rb2)
       (R (.bool false) hv5)
       (Iv [.int .i64 (IntKind.i64.wrap (i + (1 : Int)))] hv5 ∧ m [.int .i64 (IntKind.i64.wrap (i + (1 : Int)))] hv5 < m [.int .i64 i] hv2)))
     (K hv2))
    (K hv2))
theorem calls3 {h : Heap} {R : Value → Heap → Prop} (ssA : Option Addr) (ssL ssC : Nat) (H : S3 ssA ssL ssC h R) : CallsH Tryz.prog 3 #[.slice ssA ssL ssC] h R := by
  have e : S3 ssA ssL ssC h R = FX (envX [] 45) { loops := [(0, ⟨[0], [3], [], []⟩)], joins := [], blocks := [], draws := [] } Tryz.f3 (Tryz.f3.body.getD .skip) [.slice ssA ssL ssC] h R := by kernel_rfl
  exact calls_of_FX (envX_ok _ _) Tryz.func3 (by kernel_rfl) (by kernel_rfl) (by kernel_rfl) (e ▸ H)
/-- tracery/tracerylaw1.WeighReads -/
def Ok3 (ssV : List ByteArray) (R : Bool → Prop) : Prop :=
  ∀ (h : Heap) (gl : GL) (ssA : Option Addr) (ssL ssC : Nat), Hp h [Ck.glob gl, Ck.vw eS ssA ssL ssC ssV] → CallsH Tryz.prog 3 #[.slice ssA ssL ssC] h fun v h' => ∃ (rV : Bool), Sy h [] h' [] ∧ v = .bool rV ∧ R rV
theorem Ok3.mono {ssV} {R R' : Bool → Prop} (H : Ok3 ssV R) (kz : ∀ rV, R rV → R' rV) : Ok3 ssV R' :=
  fun h gl ssA ssL ssC hp => (H h gl ssA ssL ssC hp).mono fun _ _ ⟨rV, P, e, q⟩ => ⟨rV, P, e, kz _ q⟩
def T3 (ssV : List ByteArray) (R : Bool → Prop) : Prop :=
  Ok9 (fun r =>
  cnd (!r)
   (R false)
   (∃ Jv : Prop,
   ( ∃ (Iv : Int → Prop) (m : Int → Nat), Iv 0 ∧
   ∀ i : Int, Iv i →
   cnd (decide (i < ((ssV.length : Nat) : Int)))
    (cnd (decide (i < (40 : Int)))
     (0 ≤ i ∧ i < ((ssV.length : Nat) : Int) ∧ ∀ ss : ByteArray, ssV[(Int.toNat i)]? = some ss → Ok10 ss (fun ra rb =>
     Ok11 ss (fun ra2 rb2 =>
     Ok12 ra ra2 (fun r2 =>
     cnd (!r2)
      (R false)
      (cnd (rb != rb2)
       (R false)
       (Iv (IntKind.i64.wrap (i + (1 : Int))) ∧ m (IntKind.i64.wrap (i + (1 : Int))) < m i))))))
     (Jv))
    (Jv)) ∧
   (Jv →
   R true)))
theorem ok3 {ssV} {R : Bool → Prop} (T : T3 ssV R) : Ok3 ssV R := by
  intro h gl ssA ssL ssC H
  have Y : Sy h [] h _ := Sy.startM H rfl
  obtain rfl := Y.lenV 1 rfl
  apply calls3
  unfold S3
  unfold T3 at T
  refine callX_sy (T _ _ (Y.pick [0] rfl).hp) (fun _ _ ⟨_, p, _⟩ => p.fr) alln ?_
  rintro v hv ⟨r, PP, rfl, T⟩
  have Y : Sy _ _ hv [_, _] := Y.gr PP.fr
  clear PP
  refine ⟨r, rfl, ?_⟩
  refine cnd_imp T (fun T => ?_) (fun T => ?_)
  · exact ⟨_, Y.pick [] rfl, rfl, T⟩
  · obtain ⟨Jv, T0, T1⟩ := T
    obtain ⟨B, hB, _⟩ := Y.cut [] [0, 1] rfl
    intro K
    have hK : ∀  (hv6 : Heap), (Sy h [] hv6 ([] ++ B) ∧ Jv) → K hv6 := by
      subst hB
      clear T0 Y
      rintro hv6 ⟨Y, T⟩
      replace T := T1 T
      have Y : Sy _ _ _ [_, _] := Y
      unfold K
      exact ⟨_, Y.pick [] rfl, rfl, T⟩
    subst hB
    replace T := T0
    clear T0 T1
    obtain ⟨Iv, m, T0, T1⟩ := T
    obtain ⟨B_2, hB_2, YB⟩ := Y.cut [] [0, 1] rfl
    obtain ⟨JJ, hJJ⟩ : ∃ JJ : Nat → List Value → Heap → Prop, JJ = (fun k lz h' => ∃ (i : Int), lz = [.int .i64 i] ∧ Sy h [] h' ([] ++ B_2) ∧ Iv i ∧ m i = k) := ⟨_, rfl⟩
    refine ⟨fun lz h' => ∃ k, JJ k lz h', Lm JJ, ?_, ?_⟩
    · subst hJJ hB_2
      exact ⟨_, _, rfl, YB, T0, rfl⟩
    · clear YB T0 Y
      intro i hv2 hI
      obtain ⟨k, hI, hm⟩ := loopIn hI
      subst hJJ hB_2
      obtain ⟨i, e, Y, T, rfl⟩ := hI
      cases e
      replace T := T1 i T
      have Y : Sy _ _ _ [_, _] := Y
      refine cnd_imp T (fun T => ?_) (fun T => ?_)
      · refine cnd_imp T (fun T => ?_) (fun T => ?_)
        · obtain ⟨q, q_2, T⟩ := T
          obtain ⟨b_2, o_2, hb, hr, ss, hx⟩ := Y.atV 1 rfl q q_2
          refine ⟨b_2, o_2, hb, q, q_2, ?_⟩
          replace T := T ss hx
          refine ⟨_, Y.cellV 1 rfl hb (t := 0) hx rfl, ?_⟩
          refine callX_sy (T _ _ (Y.pick [0] rfl).hp) (fun _ _ ⟨_, _, p, _⟩ => p.fr) alln ?_
          rintro v2 hv3 ⟨ra, rb, PP, rfl, T⟩
          have Y : Sy _ _ hv3 [_, _] := Y.gr PP.fr
          clear PP
          refine ⟨ra, rb, rfl, ?_⟩
          refine ⟨b_2, o_2, hb, q, q_2, ?_⟩
          refine ⟨_, Y.cellV 1 rfl hb (t := 0) hx rfl, ?_⟩
          refine callX_sy (T _ _ (Y.pick [0] rfl).hp) (fun _ _ ⟨_, _, p, _⟩ => p.fr) alln ?_
          rintro v3 hv4 ⟨ra2, rb2, PP, rfl, T⟩
          have Y : Sy _ _ hv4 [_, _] := Y.gr PP.fr
          clear PP
          refine ⟨ra2, rb2, rfl, ?_⟩
          refine callX_sy (T _ (Hp.nil _)) (fun _ _ ⟨_, p, _⟩ => p.fr) alln ?_
          rintro v4 hv5 ⟨r2, PP, rfl, T⟩
          have Y : Sy _ _ hv5 [_, _] := Y.gr PP.fr
          clear PP
          refine ⟨r2, rfl, ?_⟩
          refine cnd_imp T (fun T => ?_) (fun T => ?_)
          · exact ⟨_, Y.pick [] rfl, rfl, T⟩
          · refine cnd_imp T (fun T => ?_) (fun T => ?_)
            · exact ⟨_, Y.pick [] rfl, rfl, T⟩
            · exact loopBack hm ⟨_, rfl, Y.pick [0, 1] rfl, T.1, rfl⟩ T.2
        · exact hK _ ⟨Y.pick [0, 1] rfl, T⟩
      · exact hK _ ⟨Y.pick [0, 1] rfl, T⟩
end Go.Proofs.YtfjflbapojgbhaaGreatDoor.N
