/- Functions: what is left to be shown of each, over memory and without: printed by program, tied to the loaded functions by the kernel. Conditions: none. -/
import Derived.Test.YtfjflbapojgbhaaGreatDoorWEnv
import Derived.Test.YtfjflbapojgbhaaGreatDoorYTwo
import Derived.Test.YtfjflbapojgbhaaGreatDoorYGl
import Derived.Test.YtfjflbapojgbhaaGreatDoorTPar
namespace Go.Proofs.YtfjflbapojgbhaaGreatDoor.N
open Go.Proofs.YtfjflbapojgbhaaGreatDoor
open Go.X
set_option maxRecDepth 100000
set_option linter.unusedVariables false
set_option linter.unusedSimpArgs false
set_option maxHeartbeats 2000000

/-- tracery/traceryref1.Bits -/
def S12 (a : Nat) (b : Nat) (h : Heap) (R : Value → Heap → Prop) : Prop :=
  callE Tryz.prog 32 #[.float .f64 a] fun v =>
  ∃ r : Int, v = .int .u64 r ∧
  callE Tryz.prog 32 #[.float .f64 b] fun v2 =>
  ∃ r2 : Int, v2 = .int .u64 r2 ∧
  R (.bool (r == r2)) h
theorem calls12 {h : Heap} {R : Value → Heap → Prop} (a : Nat) (b : Nat) (H : S12 a b h R) : CallsH Tryz.prog 12 #[.float .f64 a, .float .f64 b] h R := by
  have e : S12 a b h R = FX (envX [] 10) { loops := [], joins := [], blocks := [], draws := [] } Tryz.f12 (Tryz.f12.body.getD .skip) [.float .f64 a, .float .f64 b] h R := by kernel_rfl
  exact calls_of_FX (envX_ok _ _) Tryz.func12 (by kernel_rfl) (by kernel_rfl) (by kernel_rfl) (e ▸ H)
/-- tracery/traceryref1.Bits -/
def Ok12 (a : Nat) (b : Nat) (R : Bool → Prop) : Prop :=
  ∀ (h : Heap), Hp h [] → CallsH Tryz.prog 12 #[.float .f64 a, .float .f64 b] h fun v h' => ∃ (rV : Bool), Sy h [] h' [] ∧ v = .bool rV ∧ R rV
theorem Ok12.mono {a b} {R R' : Bool → Prop} (H : Ok12 a b R) (kz : ∀ rV, R rV → R' rV) : Ok12 a b R' :=
  fun h  hp => (H h  hp).mono fun _ _ ⟨rV, P, e, q⟩ => ⟨rV, P, e, kz _ q⟩
def T12 (a : Nat) (b : Nat) (R : Bool → Prop) : Prop :=
  callE Tryz.prog 32 #[.float .f64 a] fun v =>
  ∃ r : Int, v = .int .u64 r ∧
  callE Tryz.prog 32 #[.float .f64 b] fun v2 =>
  ∃ r2 : Int, v2 = .int .u64 r2 ∧
  R (r == r2)
theorem ok12 {a b} {R : Bool → Prop} (T : T12 a b R) : Ok12 a b R := by
  intro h  H
  have Y : Sy h [] h _ := Sy.startM H rfl
  apply calls12
  unfold S12
  unfold T12 at T
  obtain ⟨Rx_2, hx_2, T⟩ := T
  refine ⟨Rx_2, hx_2, fun v hv => ?_⟩
  obtain ⟨r, rfl, T⟩ := T v hv
  refine ⟨r, rfl, ?_⟩
  obtain ⟨Rx, hx, T⟩ := T
  refine ⟨Rx, hx, fun v2 hv => ?_⟩
  obtain ⟨r2, rfl, T⟩ := T v2 hv
  refine ⟨r2, rfl, ?_⟩
  exact ⟨_, Y.pick [] rfl, rfl, T⟩
/-- tracery/weigh.Less -/
def S14 (a : Nat) (b : Nat) (h : Heap) (R : Value → Heap → Prop) : Prop :=
  cnd ((FloatKind.f64).format.order a a != some .eq)
    (R (.bool ((FloatKind.f64).format.order a a == some .eq)) h)
    (cnd ((FloatKind.f64).format.order b b != some .eq)
      (R (.bool ((FloatKind.f64).format.order a a == some .eq)) h)
      (R (.bool ((FloatKind.f64).format.order a b == some .lt)) h))
theorem calls14 {h : Heap} {R : Value → Heap → Prop} (a : Nat) (b : Nat) (H : S14 a b h R) : CallsH Tryz.prog 14 #[.float .f64 a, .float .f64 b] h R := by
  have e : S14 a b h R = FX (envX [] 19) { loops := [], joins := [], blocks := [], draws := [] } Tryz.f14 (Tryz.f14.body.getD .skip) [.float .f64 a, .float .f64 b] h R := by kernel_rfl
  exact calls_of_FX (envX_ok _ _) Tryz.func14 (by kernel_rfl) (by kernel_rfl) (by kernel_rfl) (e ▸ H)
/-- tracery/weigh.Less -/
def Ok14 (a : Nat) (b : Nat) (R : Bool → Prop) : Prop :=
  ∀ (h : Heap), Hp h [] → CallsH Tryz.prog 14 #[.float .f64 a, .float .f64 b] h fun v h' => ∃ (rV : Bool), Sy h [] h' [] ∧ v = .bool rV ∧ R rV
theorem Ok14.mono {a b} {R R' : Bool → Prop} (H : Ok14 a b R) (kz : ∀ rV, R rV → R' rV) : Ok14 a b R' :=
  fun h  hp => (H h  hp).mono fun _ _ ⟨rV, P, e, q⟩ => ⟨rV, P, e, kz _ q⟩
def T14 (a : Nat) (b : Nat) (R : Bool → Prop) : Prop :=
  cnd ((FloatKind.f64).format.order a a != some .eq)
    (R ((FloatKind.f64).format.order a a == some .eq))
    (cnd ((FloatKind.f64).format.order b b != some .eq)
      (R ((FloatKind.f64).format.order a a == some .eq))
      (R ((FloatKind.f64).format.order a b == some .lt)))
theorem ok14 {a b} {R : Bool → Prop} (T : T14 a b R) : Ok14 a b R := by
  intro h  H
  have Y : Sy h [] h _ := Sy.startM H rfl
  apply calls14
  unfold S14
  unfold T14 at T
  refine cnd_imp T (fun T => ?_) (fun T => ?_)
  · exact ⟨_, Y.pick [] rfl, rfl, T⟩
  · refine cnd_imp T (fun T => ?_) (fun T => ?_)
    · exact ⟨_, Y.pick [] rfl, rfl, T⟩
    · exact ⟨_, Y.pick [] rfl, rfl, T⟩
/-- tracery/traceryref1.NaN -/
def S30  (h : Heap) (R : Value → Heap → Prop) : Prop :=
  callE Tryz.prog 13 #[.int .u64 9221120237041090561] fun v =>
  ∃ r : Nat, v = .float .f64 r ∧
  R (.float .f64 r) h
theorem calls30 {h : Heap} {R : Value → Heap → Prop}  (H : S30  h R) : CallsH Tryz.prog 30 #[] h R := by
  have e : S30  h R = FX (envX [] 2) { loops := [], joins := [], blocks := [], draws := [] } Tryz.f30 (Tryz.f30.body.getD .skip) [] h R := by kernel_rfl
  exact calls_of_FX (envX_ok _ _) Tryz.func30 (by kernel_rfl) (by kernel_rfl) (by kernel_rfl) (e ▸ H)
/-- tracery/traceryref1.NaN -/
def Ok30  (R : Nat → Prop) : Prop :=
  ∀ (h : Heap), Hp h [] → CallsH Tryz.prog 30 #[] h fun v h' => ∃ (rV : Nat), Sy h [] h' [] ∧ v = .float .f64 rV ∧ R rV
theorem Ok30.mono {R R' : Nat → Prop} (H : Ok30  R) (kz : ∀ rV, R rV → R' rV) : Ok30  R' :=
  fun h  hp => (H h  hp).mono fun _ _ ⟨rV, P, e, q⟩ => ⟨rV, P, e, kz _ q⟩
def T30  (R : Nat → Prop) : Prop :=
  callE Tryz.prog 13 #[.int .u64 9221120237041090561] fun v =>
  ∃ r : Nat, v = .float .f64 r ∧
  R r
theorem ok30 {R : Nat → Prop} (T : T30  R) : Ok30  R := by
  intro h  H
  have Y : Sy h [] h _ := Sy.startM H rfl
  apply calls30
  unfold S30
  unfold T30 at T
  obtain ⟨Rx, hx, T⟩ := T
  refine ⟨Rx, hx, fun v hv => ?_⟩
  obtain ⟨r, rfl, T⟩ := T v hv
  refine ⟨r, rfl, ?_⟩
  exact ⟨_, Y.pick [] rfl, rfl, T⟩
/-- math.Abs -/
def S39 (x : Nat) (h : Heap) (R : Value → Heap → Prop) : Prop :=
  callE Tryz.prog 32 #[.float .f64 x] fun v =>
  ∃ r : Int, v = .int .u64 r ∧
  callE Tryz.prog 13 #[.int .u64 (bits .andNot .u64 r (9223372036854775808 : Int))] fun v2 =>
  ∃ r2 : Nat, v2 = .float .f64 r2 ∧
  R (.float .f64 r2) h
theorem calls39 {h : Heap} {R : Value → Heap → Prop} (x : Nat) (H : S39 x h R) : CallsH Tryz.prog 39 #[.float .f64 x] h R := by
  have e : S39 x h R = FX (envX [] 7) { loops := [], joins := [], blocks := [], draws := [] } Tryz.f39 (Tryz.f39.body.getD .skip) [.float .f64 x] h R := by kernel_rfl
  exact calls_of_FX (envX_ok _ _) Tryz.func39 (by kernel_rfl) (by kernel_rfl) (by kernel_rfl) (e ▸ H)
/-- math.Abs -/
def Ok39 (x : Nat) (R : Nat → Prop) : Prop :=
  ∀ (h : Heap), Hp h [] → CallsH Tryz.prog 39 #[.float .f64 x] h fun v h' => ∃ (rV : Nat), Sy h [] h' [] ∧ v = .float .f64 rV ∧ R rV
theorem Ok39.mono {x} {R R' : Nat → Prop} (H : Ok39 x R) (kz : ∀ rV, R rV → R' rV) : Ok39 x R' :=
  fun h  hp => (H h  hp).mono fun _ _ ⟨rV, P, e, q⟩ => ⟨rV, P, e, kz _ q⟩
def T39 (x : Nat) (R : Nat → Prop) : Prop :=
  callE Tryz.prog 32 #[.float .f64 x] fun v =>
  ∃ r : Int, v = .int .u64 r ∧
  callE Tryz.prog 13 #[.int .u64 (bits .andNot .u64 r (9223372036854775808 : Int))] fun v2 =>
  ∃ r2 : Nat, v2 = .float .f64 r2 ∧
  R r2
theorem ok39 {x} {R : Nat → Prop} (T : T39 x R) : Ok39 x R := by
  intro h  H
  have Y : Sy h [] h _ := Sy.startM H rfl
  apply calls39
  unfold S39
  unfold T39 at T
  obtain ⟨Rx_2, hx_2, T⟩ := T
  refine ⟨Rx_2, hx_2, fun v hv => ?_⟩
  obtain ⟨r, rfl, T⟩ := T v hv
  refine ⟨r, rfl, ?_⟩
  obtain ⟨Rx, hx, T⟩ := T
  refine ⟨Rx, hx, fun v2 hv => ?_⟩
  obtain ⟨r2, rfl, T⟩ := T v2 hv
  refine ⟨r2, rfl, ?_⟩
  exact ⟨_, Y.pick [] rfl, rfl, T⟩
/-- math.Inf -/
def S26 (sign : Int) (h : Heap) (R : Value → Heap → Prop) : Prop :=
  ∃ Jv : List Value → Heap → Prop, -- join 5 ['v']
  ( cnd (decide (sign ≥ (0 : Int)))
     (Jv [.int .u64 9218868437227405312] h)
     (Jv [.int .u64 18442240474082181120] h)) ∧
  ∀ v : Int, ∀ hv, Jv [.int .u64 v] hv →
  callE Tryz.prog 13 #[.int .u64 v] fun v2 =>
  ∃ r : Nat, v2 = .float .f64 r ∧
  R (.float .f64 r) hv
theorem calls26 {h : Heap} {R : Value → Heap → Prop} (sign : Int) (H : S26 sign h R) : CallsH Tryz.prog 26 #[.int .i64 sign] h R := by
  have e : S26 sign h R = FX (envX [] 8) { loops := [], joins := [(5, ⟨[], [3], [], []⟩)], blocks := [], draws := [] } Tryz.f26 (Tryz.f26.body.getD .skip) [.int .i64 sign] h R := by kernel_rfl
  exact calls_of_FX (envX_ok _ _) Tryz.func26 (by kernel_rfl) (by kernel_rfl) (by kernel_rfl) (e ▸ H)
/-- math.Inf -/
def Ok26 (sign : Int) (R : Nat → Prop) : Prop :=
  ∀ (h : Heap), Hp h [] → CallsH Tryz.prog 26 #[.int .i64 sign] h fun v h' => ∃ (rV : Nat), Sy h [] h' [] ∧ v = .float .f64 rV ∧ R rV
theorem Ok26.mono {sign} {R R' : Nat → Prop} (H : Ok26 sign R) (kz : ∀ rV, R rV → R' rV) : Ok26 sign R' :=
  fun h  hp => (H h  hp).mono fun _ _ ⟨rV, P, e, q⟩ => ⟨rV, P, e, kz _ q⟩
def T26 (sign : Int) (R : Nat → Prop) : Prop :=
  ∃ Jv : Int → Prop,
  ( cnd (decide (sign ≥ (0 : Int)))
     (Jv 9218868437227405312)
     (Jv 18442240474082181120)) ∧
  ∀ v : Int, Jv v →
  callE Tryz.prog 13 #[.int .u64 v] fun v2 =>
  ∃ r : Nat, v2 = .float .f64 r ∧
  R r
theorem ok26 {sign} {R : Nat → Prop} (T : T26 sign R) : Ok26 sign R := by
  intro h  H
  have Y : Sy h [] h _ := Sy.startM H rfl
  apply calls26
  unfold S26
  unfold T26 at T
  obtain ⟨Jv, T0, T1⟩ := T
  obtain ⟨B, hB, _⟩ := Y.cut [] [] rfl
  refine ⟨fun lz h' => ∃ (v : Int), lz = [.int .u64 v] ∧ Sy h [] h' ([] ++ B) ∧ Jv v, ?_, ?_⟩
  · subst hB
    replace T := T0
    clear T0 T1
    refine cnd_imp T (fun T => ?_) (fun T => ?_)
    · exact ⟨_, rfl, Y.pick [] rfl, T⟩
    · exact ⟨_, rfl, Y.pick [] rfl, T⟩
  · subst hB
    clear T0 Y
    rintro v hv ⟨v, e, Y, T⟩
    cases e
    replace T := T1 v T
    have Y : Sy _ _ _ [] := Y
    obtain ⟨Rx, hx, T⟩ := T
    refine ⟨Rx, hx, fun v2 hv => ?_⟩
    obtain ⟨r, rfl, T⟩ := T v2 hv
    refine ⟨r, rfl, ?_⟩
    exact ⟨_, Y.pick [] rfl, rfl, T⟩
/-- math.IsInf -/
def S29 (f : Nat) (sign : Int) (h : Heap) (R : Value → Heap → Prop) : Prop :=
  ∃ Jv : List Value → Heap → Prop, -- join 6 ['f']
  ( cnd (sign == (0 : Int))
     (callX Tryz.prog 39 #[.float .f64 f] h [] fun v hv =>
     ∃ r : Nat, v = .float .f64 r ∧
     Jv [.float .f64 r] hv)
     (∃ Jv2 : List Value → Heap → Prop, -- join 10 ['f']
     ( cnd (decide (sign < (0 : Int)))
        (Jv2 [.float .f64 (Op.negFloat .f64 f)] h)
        (Jv2 [.float .f64 f] h)) ∧
     ∀ f2 : Nat, ∀ hv2, Jv2 [.float .f64 f2] hv2 →
     Jv [.float .f64 f2] hv2)) ∧
  ∀ f3 : Nat, ∀ hv3, Jv [.float .f64 f3] hv3 →
  R (.bool ((FloatKind.f64).format.order f3 9218868437227405311 == some .gt)) hv3
theorem calls29 {h : Heap} {R : Value → Heap → Prop} (f : Nat) (sign : Int) (H : S29 f sign h R) : CallsH Tryz.prog 29 #[.float .f64 f, .int .i64 sign] h R := by
  have e : S29 f sign h R = FX (envX [] 15) { loops := [], joins := [(6, ⟨[], [0], [], []⟩), (10, ⟨[], [0], [], []⟩)], blocks := [], draws := [] } Tryz.f29 (Tryz.f29.body.getD .skip) [.float .f64 f, .int .i64 sign] h R := by kernel_rfl
  exact calls_of_FX (envX_ok _ _) Tryz.func29 (by kernel_rfl) (by kernel_rfl) (by kernel_rfl) (e ▸ H)
/-- math.IsInf -/
def Ok29 (f : Nat) (sign : Int) (R : Bool → Prop) : Prop :=
  ∀ (h : Heap), Hp h [] → CallsH Tryz.prog 29 #[.float .f64 f, .int .i64 sign] h fun v h' => ∃ (rV : Bool), Sy h [] h' [] ∧ v = .bool rV ∧ R rV
theorem Ok29.mono {f sign} {R R' : Bool → Prop} (H : Ok29 f sign R) (kz : ∀ rV, R rV → R' rV) : Ok29 f sign R' :=
  fun h  hp => (H h  hp).mono fun _ _ ⟨rV, P, e, q⟩ => ⟨rV, P, e, kz _ q⟩
def T29 (f : Nat) (sign : Int) (R : Bool → Prop) : Prop :=
  ∃ Jv : Nat → Prop,
  ( cnd (sign == (0 : Int))
     (Ok39 f (fun r =>
     Jv r))
     (∃ Jv2 : Nat → Prop,
     ( cnd (decide (sign < (0 : Int)))
        (Jv2 (Op.negFloat .f64 f))
        (Jv2 f)) ∧
     ∀ f2 : Nat, Jv2 f2 →
     Jv f2)) ∧
  ∀ f3 : Nat, Jv f3 →
  R ((FloatKind.f64).format.order f3 9218868437227405311 == some .gt)
theorem ok29 {f sign} {R : Bool → Prop} (T : T29 f sign R) : Ok29 f sign R := by
  intro h  H
  have Y : Sy h [] h _ := Sy.startM H rfl
  apply calls29
  unfold S29
  unfold T29 at T
  obtain ⟨Jv, T0, T1⟩ := T
  obtain ⟨B, hB, _⟩ := Y.cut [] [] rfl
  refine ⟨fun lz h' => ∃ (f3 : Nat), lz = [.float .f64 f3] ∧ Sy h [] h' ([] ++ B) ∧ Jv f3, ?_, ?_⟩
  · subst hB
    replace T := T0
    clear T0 T1
    refine cnd_imp T (fun T => ?_) (fun T => ?_)
    · refine callX_sy (T _ (Hp.nil _)) (fun _ _ ⟨_, p, _⟩ => p.fr) alln ?_
      rintro v hv ⟨r, PP, rfl, T⟩
      have Y : Sy _ _ hv [] := Y.gr PP.fr
      clear PP
      refine ⟨r, rfl, ?_⟩
      exact ⟨_, rfl, Y.pick [] rfl, T⟩
    · obtain ⟨Jv2, T0, T1⟩ := T
      obtain ⟨B_2, hB_2, _⟩ := Y.cut [] [] rfl
      refine ⟨fun lz h' => ∃ (f2 : Nat), lz = [.float .f64 f2] ∧ Sy h [] h' ([] ++ B_2) ∧ Jv2 f2, ?_, ?_⟩
      · subst hB_2
        replace T := T0
        clear T0 T1
        refine cnd_imp T (fun T => ?_) (fun T => ?_)
        · exact ⟨_, rfl, Y.pick [] rfl, T⟩
        · exact ⟨_, rfl, Y.pick [] rfl, T⟩
      · subst hB_2
        clear T0 Y
        rintro f2 hv2 ⟨f2, e, Y, T⟩
        cases e
        replace T := T1 f2 T
        have Y : Sy _ _ _ [] := Y
        exact ⟨_, rfl, Y.pick [] rfl, T⟩
  · subst hB
    clear T0 Y
    rintro f3 hv3 ⟨f3, e, Y, T⟩
    cases e
    replace T := T1 f3 T
    have Y : Sy _ _ _ [] := Y
    exact ⟨_, Y.pick [] rfl, rfl, T⟩
/-- tracery/weigh.Good -/
def S18 (x : Nat) (h : Heap) (R : Value → Heap → Prop) : Prop :=
  R (.bool (((FloatKind.f64).format.order x 0 == some .gt) || ((FloatKind.f64).format.order x 0 == some .eq))) h
theorem calls18 {h : Heap} {R : Value → Heap → Prop} (x : Nat) (H : S18 x h R) : CallsH Tryz.prog 18 #[.float .f64 x] h R := by
  have e : S18 x h R = FX (envX [] 5) { loops := [], joins := [], blocks := [], draws := [] } Tryz.f18 (Tryz.f18.body.getD .skip) [.float .f64 x] h R := by kernel_rfl
  exact calls_of_FX (envX_ok _ _) Tryz.func18 (by kernel_rfl) (by kernel_rfl) (by kernel_rfl) (e ▸ H)
/-- tracery/weigh.Good -/
def Ok18 (x : Nat) (R : Bool → Prop) : Prop :=
  ∀ (h : Heap), Hp h [] → CallsH Tryz.prog 18 #[.float .f64 x] h fun v h' => ∃ (rV : Bool), Sy h [] h' [] ∧ v = .bool rV ∧ R rV
theorem Ok18.mono {x} {R R' : Bool → Prop} (H : Ok18 x R) (kz : ∀ rV, R rV → R' rV) : Ok18 x R' :=
  fun h  hp => (H h  hp).mono fun _ _ ⟨rV, P, e, q⟩ => ⟨rV, P, e, kz _ q⟩
def T18 (x : Nat) (R : Bool → Prop) : Prop :=
  R (((FloatKind.f64).format.order x 0 == some .gt) || ((FloatKind.f64).format.order x 0 == some .eq))
theorem ok18 {x} {R : Bool → Prop} (T : T18 x R) : Ok18 x R := by
  intro h  H
  have Y : Sy h [] h _ := Sy.startM H rfl
  apply calls18
  unfold S18
  unfold T18 at T
  exact ⟨_, Y.pick [] rfl, rfl, T⟩
/-- tracery/traceryref1.Good -/
def S19 (x : Nat) (h : Heap) (R : Value → Heap → Prop) : Prop :=
  R (.bool (((FloatKind.f64).format.order x 0 == some .gt) || ((FloatKind.f64).format.order x 0 == some .eq))) h
theorem calls19 {h : Heap} {R : Value → Heap → Prop} (x : Nat) (H : S19 x h R) : CallsH Tryz.prog 19 #[.float .f64 x] h R := by
  have e : S19 x h R = FX (envX [] 5) { loops := [], joins := [], blocks := [], draws := [] } Tryz.f19 (Tryz.f19.body.getD .skip) [.float .f64 x] h R := by kernel_rfl
  exact calls_of_FX (envX_ok _ _) Tryz.func19 (by kernel_rfl) (by kernel_rfl) (by kernel_rfl) (e ▸ H)
/-- tracery/traceryref1.Good -/
def Ok19 (x : Nat) (R : Bool → Prop) : Prop :=
  ∀ (h : Heap), Hp h [] → CallsH Tryz.prog 19 #[.float .f64 x] h fun v h' => ∃ (rV : Bool), Sy h [] h' [] ∧ v = .bool rV ∧ R rV
theorem Ok19.mono {x} {R R' : Bool → Prop} (H : Ok19 x R) (kz : ∀ rV, R rV → R' rV) : Ok19 x R' :=
  fun h  hp => (H h  hp).mono fun _ _ ⟨rV, P, e, q⟩ => ⟨rV, P, e, kz _ q⟩
def T19 (x : Nat) (R : Bool → Prop) : Prop :=
  R (((FloatKind.f64).format.order x 0 == some .gt) || ((FloatKind.f64).format.order x 0 == some .eq))
theorem ok19 {x} {R : Bool → Prop} (T : T19 x R) : Ok19 x R := by
  intro h  H
  have Y : Sy h [] h _ := Sy.startM H rfl
  apply calls19
  unfold S19
  unfold T19 at T
  exact ⟨_, Y.pick [] rfl, rfl, T⟩
/-- tracery/weigh.Clean -/
def S20 (x : Nat) (h : Heap) (R : Value → Heap → Prop) : Prop :=
  cnd ((FloatKind.f64).format.order x x != some .eq)
    (callE Tryz.prog 13 #[.int .u64 9221120237041090561] fun v =>
    ∃ r : Nat, v = .float .f64 r ∧
    R (.float .f64 r) h)
    (cnd ((FloatKind.f64).format.order x 0 == some .eq)
      (R (.float .f64 0) h)
      (R (.float .f64 x) h))
theorem calls20 {h : Heap} {R : Value → Heap → Prop} (x : Nat) (H : S20 x h R) : CallsH Tryz.prog 20 #[.float .f64 x] h R := by
  have e : S20 x h R = FX (envX [] 10) { loops := [], joins := [], blocks := [], draws := [] } Tryz.f20 (Tryz.f20.body.getD .skip) [.float .f64 x] h R := by kernel_rfl
  exact calls_of_FX (envX_ok _ _) Tryz.func20 (by kernel_rfl) (by kernel_rfl) (by kernel_rfl) (e ▸ H)
/-- tracery/weigh.Clean -/
def Ok20 (x : Nat) (R : Nat → Prop) : Prop :=
  ∀ (h : Heap), Hp h [] → CallsH Tryz.prog 20 #[.float .f64 x] h fun v h' => ∃ (rV : Nat), Sy h [] h' [] ∧ v = .float .f64 rV ∧ R rV
theorem Ok20.mono {x} {R R' : Nat → Prop} (H : Ok20 x R) (kz : ∀ rV, R rV → R' rV) : Ok20 x R' :=
  fun h  hp => (H h  hp).mono fun _ _ ⟨rV, P, e, q⟩ => ⟨rV, P, e, kz _ q⟩
def T20 (x : Nat) (R : Nat → Prop) : Prop :=
  cnd ((FloatKind.f64).format.order x x != some .eq)
    (callE Tryz.prog 13 #[.int .u64 9221120237041090561] fun v =>
    ∃ r : Nat, v = .float .f64 r ∧
    R r)
    (cnd ((FloatKind.f64).format.order x 0 == some .eq)
      (R 0)
      (R x))
theorem ok20 {x} {R : Nat → Prop} (T : T20 x R) : Ok20 x R := by
  intro h  H
  have Y : Sy h [] h _ := Sy.startM H rfl
  apply calls20
  unfold S20
  unfold T20 at T
  refine cnd_imp T (fun T => ?_) (fun T => ?_)
  · obtain ⟨Rx, hx, T⟩ := T
    refine ⟨Rx, hx, fun v hv => ?_⟩
    obtain ⟨r, rfl, T⟩ := T v hv
    refine ⟨r, rfl, ?_⟩
    exact ⟨_, Y.pick [] rfl, rfl, T⟩
  · refine cnd_imp T (fun T => ?_) (fun T => ?_)
    · exact ⟨_, Y.pick [] rfl, rfl, T⟩
    · exact ⟨_, Y.pick [] rfl, rfl, T⟩
/-- tracery/traceryref1.Clean -/
def S21 (x : Nat) (h : Heap) (R : Value → Heap → Prop) : Prop :=
  cnd ((FloatKind.f64).format.order x x != some .eq)
    (callX Tryz.prog 30 #[] h [] fun v hv =>
    ∃ r : Nat, v = .float .f64 r ∧
    R (.float .f64 r) hv)
    (cnd ((FloatKind.f64).format.order x 0 == some .eq)
      (R (.float .f64 0) h)
      (R (.float .f64 x) h))
theorem calls21 {h : Heap} {R : Value → Heap → Prop} (x : Nat) (H : S21 x h R) : CallsH Tryz.prog 21 #[.float .f64 x] h R := by
  have e : S21 x h R = FX (envX [] 10) { loops := [], joins := [], blocks := [], draws := [] } Tryz.f21 (Tryz.f21.body.getD .skip) [.float .f64 x] h R := by kernel_rfl
  exact calls_of_FX (envX_ok _ _) Tryz.func21 (by kernel_rfl) (by kernel_rfl) (by kernel_rfl) (e ▸ H)
/-- tracery/traceryref1.Clean -/
def Ok21 (x : Nat) (R : Nat → Prop) : Prop :=
  ∀ (h : Heap), Hp h [] → CallsH Tryz.prog 21 #[.float .f64 x] h fun v h' => ∃ (rV : Nat), Sy h [] h' [] ∧ v = .float .f64 rV ∧ R rV
theorem Ok21.mono {x} {R R' : Nat → Prop} (H : Ok21 x R) (kz : ∀ rV, R rV → R' rV) : Ok21 x R' :=
  fun h  hp => (H h  hp).mono fun _ _ ⟨rV, P, e, q⟩ => ⟨rV, P, e, kz _ q⟩
def T21 (x : Nat) (R : Nat → Prop) : Prop :=
  cnd ((FloatKind.f64).format.order x x != some .eq)
    (Ok30 (fun r =>
    R r))
    (cnd ((FloatKind.f64).format.order x 0 == some .eq)
      (R 0)
      (R x))
theorem ok21 {x} {R : Nat → Prop} (T : T21 x R) : Ok21 x R := by
  intro h  H
  have Y : Sy h [] h _ := Sy.startM H rfl
  apply calls21
  unfold S21
  unfold T21 at T
  refine cnd_imp T (fun T => ?_) (fun T => ?_)
  · refine callX_sy (T _ (Hp.nil _)) (fun _ _ ⟨_, p, _⟩ => p.fr) alln ?_
    rintro v hv ⟨r, PP, rfl, T⟩
    have Y : Sy _ _ hv [] := Y.gr PP.fr
    clear PP
    refine ⟨r, rfl, ?_⟩
    exact ⟨_, Y.pick [] rfl, rfl, T⟩
  · refine cnd_imp T (fun T => ?_) (fun T => ?_)
    · exact ⟨_, Y.pick [] rfl, rfl, T⟩
    · exact ⟨_, Y.pick [] rfl, rfl, T⟩
/-- tracery/weigh.Add -/
def S23 (a : Nat) (b : Nat) (h : Heap) (R : Value → Heap → Prop) : Prop :=
  ∀ r, FRes .f64 a b ((FloatKind.f64).format.add a b) r → callX Tryz.prog 20 #[.float .f64 r] h [] fun v hv =>
  ∃ r2 : Nat, v = .float .f64 r2 ∧
  R (.float .f64 r2) hv
theorem calls23 {h : Heap} {R : Value → Heap → Prop} (a : Nat) (b : Nat) (H : S23 a b h R) : CallsH Tryz.prog 23 #[.float .f64 a, .float .f64 b] h R := by
  have e : S23 a b h R = FX (envX [] 9) { loops := [], joins := [], blocks := [], draws := [] } Tryz.f23 (Tryz.f23.body.getD .skip) [.float .f64 a, .float .f64 b] h R := by kernel_rfl
  exact calls_of_FX (envX_ok _ _) Tryz.func23 (by kernel_rfl) (by kernel_rfl) (by kernel_rfl) (e ▸ H)
/-- tracery/weigh.Add -/
def Ok23 (a : Nat) (b : Nat) (R : Nat → Prop) : Prop :=
  ∀ (h : Heap), Hp h [] → CallsH Tryz.prog 23 #[.float .f64 a, .float .f64 b] h fun v h' => ∃ (rV : Nat), Sy h [] h' [] ∧ v = .float .f64 rV ∧ R rV
theorem Ok23.mono {a b} {R R' : Nat → Prop} (H : Ok23 a b R) (kz : ∀ rV, R rV → R' rV) : Ok23 a b R' :=
  fun h  hp => (H h  hp).mono fun _ _ ⟨rV, P, e, q⟩ => ⟨rV, P, e, kz _ q⟩
def T23 (a : Nat) (b : Nat) (R : Nat → Prop) : Prop :=
  ∀ r : Nat, FRes .f64 a b ((FloatKind.f64).format.add a b) r → Ok20 r (fun r2 =>
  R r2)
theorem ok23 {a b} {R : Nat → Prop} (T : T23 a b R) : Ok23 a b R := by
  intro h  H
  have Y : Sy h [] h _ := Sy.startM H rfl
  apply calls23
  unfold S23
  unfold T23 at T
  intro r hq
  replace T := T r hq
  refine callX_sy (T _ (Hp.nil _)) (fun _ _ ⟨_, p, _⟩ => p.fr) alln ?_
  rintro v hv ⟨r2, PP, rfl, T⟩
  have Y : Sy _ _ hv [] := Y.gr PP.fr
  clear PP
  refine ⟨r2, rfl, ?_⟩
  exact ⟨_, Y.pick [] rfl, rfl, T⟩
/-- tracery/traceryref1.Add -/
def S24 (a : Nat) (b : Nat) (h : Heap) (R : Value → Heap → Prop) : Prop :=
  ∀ r, FRes .f64 a b ((FloatKind.f64).format.add a b) r → callX Tryz.prog 21 #[.float .f64 r] h [] fun v hv =>
  ∃ r2 : Nat, v = .float .f64 r2 ∧
  R (.float .f64 r2) hv
theorem calls24 {h : Heap} {R : Value → Heap → Prop} (a : Nat) (b : Nat) (H : S24 a b h R) : CallsH Tryz.prog 24 #[.float .f64 a, .float .f64 b] h R := by
  have e : S24 a b h R = FX (envX [] 9) { loops := [], joins := [], blocks := [], draws := [] } Tryz.f24 (Tryz.f24.body.getD .skip) [.float .f64 a, .float .f64 b] h R := by kernel_rfl
  exact calls_of_FX (envX_ok _ _) Tryz.func24 (by kernel_rfl) (by kernel_rfl) (by kernel_rfl) (e ▸ H)
/-- tracery/traceryref1.Add -/
def Ok24 (a : Nat) (b : Nat) (R : Nat → Prop) : Prop :=
  ∀ (h : Heap), Hp h [] → CallsH Tryz.prog 24 #[.float .f64 a, .float .f64 b] h fun v h' => ∃ (rV : Nat), Sy h [] h' [] ∧ v = .float .f64 rV ∧ R rV
theorem Ok24.mono {a b} {R R' : Nat → Prop} (H : Ok24 a b R) (kz : ∀ rV, R rV → R' rV) : Ok24 a b R' :=
  fun h  hp => (H h  hp).mono fun _ _ ⟨rV, P, e, q⟩ => ⟨rV, P, e, kz _ q⟩
def T24 (a : Nat) (b : Nat) (R : Nat → Prop) : Prop :=
  ∀ r : Nat, FRes .f64 a b ((FloatKind.f64).format.add a b) r → Ok21 r (fun r2 =>
  R r2)
theorem ok24 {a b} {R : Nat → Prop} (T : T24 a b R) : Ok24 a b R := by
  intro h  H
  have Y : Sy h [] h _ := Sy.startM H rfl
  apply calls24
  unfold S24
  unfold T24 at T
  intro r hq
  replace T := T r hq
  refine callX_sy (T _ (Hp.nil _)) (fun _ _ ⟨_, p, _⟩ => p.fr) alln ?_
  rintro v hv ⟨r2, PP, rfl, T⟩
  have Y : Sy _ _ hv [] := Y.gr PP.fr
  clear PP
  refine ⟨r2, rfl, ?_⟩
  exact ⟨_, Y.pick [] rfl, rfl, T⟩
/-- tracery/traceryref1.Less -/
def S25 (a : Nat) (b : Nat) (h : Heap) (R : Value → Heap → Prop) : Prop :=
  cnd ((FloatKind.f64).format.order a a != some .eq)
    (R (.bool false) h)
    (cnd ((FloatKind.f64).format.order b b != some .eq)
      (R (.bool true) h)
      (R (.bool ((FloatKind.f64).format.order a b == some .lt)) h))
theorem calls25 {h : Heap} {R : Value → Heap → Prop} (a : Nat) (b : Nat) (H : S25 a b h R) : CallsH Tryz.prog 25 #[.float .f64 a, .float .f64 b] h R := by
  have e : S25 a b h R = FX (envX [] 16) { loops := [], joins := [], blocks := [], draws := [] } Tryz.f25 (Tryz.f25.body.getD .skip) [.float .f64 a, .float .f64 b] h R := by kernel_rfl
  exact calls_of_FX (envX_ok _ _) Tryz.func25 (by kernel_rfl) (by kernel_rfl) (by kernel_rfl) (e ▸ H)
/-- tracery/traceryref1.Less -/
def Ok25 (a : Nat) (b : Nat) (R : Bool → Prop) : Prop :=
  ∀ (h : Heap), Hp h [] → CallsH Tryz.prog 25 #[.float .f64 a, .float .f64 b] h fun v h' => ∃ (rV : Bool), Sy h [] h' [] ∧ v = .bool rV ∧ R rV
theorem Ok25.mono {a b} {R R' : Bool → Prop} (H : Ok25 a b R) (kz : ∀ rV, R rV → R' rV) : Ok25 a b R' :=
  fun h  hp => (H h  hp).mono fun _ _ ⟨rV, P, e, q⟩ => ⟨rV, P, e, kz _ q⟩
def T25 (a : Nat) (b : Nat) (R : Bool → Prop) : Prop :=
  cnd ((FloatKind.f64).format.order a a != some .eq)
    (R false)
    (cnd ((FloatKind.f64).format.order b b != some .eq)
      (R true)
      (R ((FloatKind.f64).format.order a b == some .lt)))
theorem ok25 {a b} {R : Bool → Prop} (T : T25 a b R) : Ok25 a b R := by
  intro h  H
  have Y : Sy h [] h _ := Sy.startM H rfl
  apply calls25
  unfold S25
  unfold T25 at T
  refine cnd_imp T (fun T => ?_) (fun T => ?_)
  · exact ⟨_, Y.pick [] rfl, rfl, T⟩
  · refine cnd_imp T (fun T => ?_) (fun T => ?_)
    · exact ⟨_, Y.pick [] rfl, rfl, T⟩
    · exact ⟨_, Y.pick [] rfl, rfl, T⟩
/-- tracery/weigh.unsigned -/
def S35 (s : ByteArray) (h : Heap) (R : Value → Heap → Prop) : Prop :=
  let K := fun (hv : Heap) =>
    (R (.string s) hv)
  cnd (!(s.toList == (⟨#[]⟩ : ByteArray).toList))
    (0 ≤ (0 : Int) ∧ (0 : Int) < ((s.size : Nat) : Int) ∧ ∃ xc : UInt8, s[Int.toNat (0 : Int)]? = some xc ∧ cnd (((UInt8.toNat xc : Nat) : Int) == (43 : Int))
      (0 ≤ (1 : Int) ∧ (1 : Int) ≤ ((s.size : Nat) : Int) ∧ R (.string (s.extract (Int.toNat (1 : Int)) s.size)) h)
      (0 ≤ (0 : Int) ∧ (0 : Int) < ((s.size : Nat) : Int) ∧ ∃ xc2 : UInt8, s[Int.toNat (0 : Int)]? = some xc2 ∧ cnd (((UInt8.toNat xc2 : Nat) : Int) == (45 : Int))
        (0 ≤ (1 : Int) ∧ (1 : Int) ≤ ((s.size : Nat) : Int) ∧ R (.string (s.extract (Int.toNat (1 : Int)) s.size)) h)
        (K h)))
    (K h)
theorem calls35 {h : Heap} {R : Value → Heap → Prop} (s : ByteArray) (H : S35 s h R) : CallsH Tryz.prog 35 #[.string s] h R := by
  have e : S35 s h R = FX (envX [] 18) { loops := [], joins := [], blocks := [], draws := [] } Tryz.f35 (Tryz.f35.body.getD .skip) [.string s] h R := by kernel_rfl
  exact calls_of_FX (envX_ok _ _) Tryz.func35 (by kernel_rfl) (by kernel_rfl) (by kernel_rfl) (e ▸ H)
/-- tracery/weigh.unsigned -/
def Ok35 (s : ByteArray) (R : ByteArray → Prop) : Prop :=
  ∀ (h : Heap), Hp h [] → CallsH Tryz.prog 35 #[.string s] h fun v h' => ∃ (rV : ByteArray), Sy h [] h' [] ∧ v = .string rV ∧ R rV
theorem Ok35.mono {s} {R R' : ByteArray → Prop} (H : Ok35 s R) (kz : ∀ rV, R rV → R' rV) : Ok35 s R' :=
  fun h  hp => (H h  hp).mono fun _ _ ⟨rV, P, e, q⟩ => ⟨rV, P, e, kz _ q⟩
def T35 (s : ByteArray) (R : ByteArray → Prop) : Prop :=
  ∃ Jv : Prop,
  ( cnd (!(s.toList == (⟨#[]⟩ : ByteArray).toList))
     (0 ≤ (0 : Int) ∧ (0 : Int) < ((s.size : Nat) : Int) ∧ ∃ xc : UInt8, s[Int.toNat (0 : Int)]? = some xc ∧ cnd (((UInt8.toNat xc : Nat) : Int) == (43 : Int))
       (0 ≤ (1 : Int) ∧ (1 : Int) ≤ ((s.size : Nat) : Int) ∧ R (s.extract (Int.toNat (1 : Int)) s.size))
       (0 ≤ (0 : Int) ∧ (0 : Int) < ((s.size : Nat) : Int) ∧ ∃ xc2 : UInt8, s[Int.toNat (0 : Int)]? = some xc2 ∧ cnd (((UInt8.toNat xc2 : Nat) : Int) == (45 : Int))
         (0 ≤ (1 : Int) ∧ (1 : Int) ≤ ((s.size : Nat) : Int) ∧ R (s.extract (Int.toNat (1 : Int)) s.size))
         (Jv)))
     (Jv)) ∧
  (Jv →
  R s)
theorem ok35 {s} {R : ByteArray → Prop} (T : T35 s R) : Ok35 s R := by
  intro h  H
  have Y : Sy h [] h _ := Sy.startM H rfl
  apply calls35
  unfold S35
  unfold T35 at T
  obtain ⟨Jv, T0, T1⟩ := T
  obtain ⟨B, hB, _⟩ := Y.cut [] [] rfl
  intro K
  have hK : ∀  (hv : Heap), (Sy h [] hv ([] ++ B) ∧ Jv) → K hv := by
    subst hB
    clear T0 Y
    rintro hv ⟨Y, T⟩
    replace T := T1 T
    have Y : Sy _ _ _ [] := Y
    unfold K
    exact ⟨_, Y.pick [] rfl, rfl, T⟩
  subst hB
  replace T := T0
  clear T0 T1
  refine cnd_imp T (fun T => ?_) (fun T => ?_)
  · obtain ⟨q_7, q_8, T⟩ := T
    refine ⟨q_7, q_8, ?_⟩
    obtain ⟨xc, hq, T⟩ := T
    refine ⟨xc, hq, ?_⟩
    refine cnd_imp T (fun T => ?_) (fun T => ?_)
    · obtain ⟨q, q_2, T⟩ := T
      refine ⟨q, q_2, ?_⟩
      exact ⟨_, Y.pick [] rfl, rfl, T⟩
    · obtain ⟨q_5, q_6, T⟩ := T
      refine ⟨q_5, q_6, ?_⟩
      obtain ⟨xc2, hq, T⟩ := T
      refine ⟨xc2, hq, ?_⟩
      refine cnd_imp T (fun T => ?_) (fun T => ?_)
      · obtain ⟨q_3, q_4, T⟩ := T
        refine ⟨q_3, q_4, ?_⟩
        exact ⟨_, Y.pick [] rfl, rfl, T⟩
      · exact hK _ ⟨Y.pick [] rfl, T⟩
  · exact hK _ ⟨Y.pick [] rfl, T⟩
/-- tracery/weigh.digits -/
def S36 (s : ByteArray) (h : Heap) (R : Value → Heap → Prop) : Prop :=
  let K2 := fun (n2 : Int) (hv3 : Heap) =>
    (R (.int .i64 n2) hv3)
  ∃ (Iv : List Value → Heap → Prop) (m : List Value → Heap → Nat), Iv [.int .i64 0] h ∧ -- loop 0: ['n']
  ∀ n : Int, ∀ hv, Iv [.int .i64 n] hv →
  let K := fun (hv2 : Heap) =>
    (K2 n hv2)
  cnd (decide (n < ((s.size : Nat) : Int)))
    (0 ≤ n ∧ n < ((s.size : Nat) : Int) ∧ ∃ xc : UInt8, s[Int.toNat n]? = some xc ∧ cnd (decide (((UInt8.toNat xc : Nat) : Int) ≥ (48 : Int)))
      (0 ≤ n ∧ n < ((s.size : Nat) : Int) ∧ ∃ xc2 : UInt8, s[Int.toNat n]? = some xc2 ∧ cnd (decide (((UInt8.toNat xc2 : Nat) : Int) ≤ (57 : Int)))
        (Iv [.int .i64 (IntKind.i64.wrap (n + (1 : Int)))] hv ∧ m [.int .i64 (IntKind.i64.wrap (n + (1 : Int)))] hv < m [.int .i64 n] hv)
        (K2 n hv))
      (K hv))
    (K hv)
theorem calls36 {h : Heap} {R : Value → Heap → Prop} (s : ByteArray) (H : S36 s h R) : CallsH Tryz.prog 36 #[.string s] h R := by
  have e : S36 s h R = FX (envX [] 23) { loops := [(0, ⟨[0], [3], [], []⟩)], joins := [], blocks := [], draws := [] } Tryz.f36 (Tryz.f36.body.getD .skip) [.string s] h R := by kernel_rfl
  exact calls_of_FX (envX_ok _ _) Tryz.func36 (by kernel_rfl) (by kernel_rfl) (by kernel_rfl) (e ▸ H)
/-- tracery/weigh.digits -/
def Ok36 (s : ByteArray) (R : Int → Prop) : Prop :=
  ∀ (h : Heap), Hp h [] → CallsH Tryz.prog 36 #[.string s] h fun v h' => ∃ (rV : Int), Sy h [] h' [] ∧ v = .int .i64 rV ∧ R rV
theorem Ok36.mono {s} {R R' : Int → Prop} (H : Ok36 s R) (kz : ∀ rV, R rV → R' rV) : Ok36 s R' :=
  fun h  hp => (H h  hp).mono fun _ _ ⟨rV, P, e, q⟩ => ⟨rV, P, e, kz _ q⟩
def T36 (s : ByteArray) (R : Int → Prop) : Prop :=
  ∃ Jv : Int → Prop,
  ( ∃ (Iv : Int → Prop) (m : Int → Nat), Iv 0 ∧
   ∀ n : Int, Iv n →
   ∃ Jv_2 : Prop,
   ( cnd (decide (n < ((s.size : Nat) : Int)))
      (0 ≤ n ∧ n < ((s.size : Nat) : Int) ∧ ∃ xc : UInt8, s[Int.toNat n]? = some xc ∧ cnd (decide (((UInt8.toNat xc : Nat) : Int) ≥ (48 : Int)))
        (0 ≤ n ∧ n < ((s.size : Nat) : Int) ∧ ∃ xc2 : UInt8, s[Int.toNat n]? = some xc2 ∧ cnd (decide (((UInt8.toNat xc2 : Nat) : Int) ≤ (57 : Int)))
          (Iv (IntKind.i64.wrap (n + (1 : Int))) ∧ m (IntKind.i64.wrap (n + (1 : Int))) < m n)
          (Jv n))
        (Jv_2))
      (Jv_2)) ∧
   (Jv_2 →
   Jv n)) ∧
  ∀ n2 : Int, Jv n2 →
  R n2
theorem ok36 {s} {R : Int → Prop} (T : T36 s R) : Ok36 s R := by
  intro h  H
  have Y : Sy h [] h _ := Sy.startM H rfl
  apply calls36
  unfold S36
  unfold T36 at T
  obtain ⟨Jv, T0, T1⟩ := T
  obtain ⟨B, hB, _⟩ := Y.cut [] [] rfl
  intro K2
  have hK2 : ∀ (n2 : Int) (hv3 : Heap), (Sy h [] hv3 ([] ++ B) ∧ Jv n2) → K2 n2 hv3 := by
    subst hB
    clear T0 Y
    rintro n2 hv3 ⟨Y, T⟩
    replace T := T1 n2 T
    have Y : Sy _ _ _ [] := Y
    unfold K2
    exact ⟨_, Y.pick [] rfl, rfl, T⟩
  subst hB
  replace T := T0
  clear T0 T1
  obtain ⟨Iv, m, T0, T1⟩ := T
  obtain ⟨B_2, hB_2, YB⟩ := Y.cut [] [] rfl
  obtain ⟨JJ, hJJ⟩ : ∃ JJ : Nat → List Value → Heap → Prop, JJ = (fun k lz h' => ∃ (n : Int), lz = [.int .i64 n] ∧ Sy h [] h' ([] ++ B_2) ∧ Iv n ∧ m n = k) := ⟨_, rfl⟩
  refine ⟨fun lz h' => ∃ k, JJ k lz h', Lm JJ, ?_, ?_⟩
  · subst hJJ hB_2
    exact ⟨_, _, rfl, YB, T0, rfl⟩
  · clear YB T0 Y
    intro n hv hI
    obtain ⟨k, hI, hm⟩ := loopIn hI
    subst hJJ hB_2
    obtain ⟨n, e, Y, T, rfl⟩ := hI
    cases e
    replace T := T1 n T
    have Y : Sy _ _ _ [] := Y
    obtain ⟨Jv_2, T0, T1⟩ := T
    obtain ⟨B_3, hB_3, _⟩ := Y.cut [] [] rfl
    intro K
    have hK : ∀  (hv2 : Heap), (Sy h [] hv2 ([] ++ B_3) ∧ Jv_2) → K hv2 := by
      subst hB_3
      clear T0 Y
      rintro hv2 ⟨Y, T⟩
      replace T := T1 T
      have Y : Sy _ _ _ [] := Y
      unfold K
      exact hK2 _ _ ⟨Y.pick [] rfl, T⟩
    subst hB_3
    replace T := T0
    clear T0 T1
    refine cnd_imp T (fun T => ?_) (fun T => ?_)
    · obtain ⟨q_3, q_4, T⟩ := T
      refine ⟨q_3, q_4, ?_⟩
      obtain ⟨xc, hq, T⟩ := T
      refine ⟨xc, hq, ?_⟩
      refine cnd_imp T (fun T => ?_) (fun T => ?_)
      · obtain ⟨q, q_2, T⟩ := T
        refine ⟨q, q_2, ?_⟩
        obtain ⟨xc2, hq, T⟩ := T
        refine ⟨xc2, hq, ?_⟩
        refine cnd_imp T (fun T => ?_) (fun T => ?_)
        · exact loopBack hm ⟨_, rfl, Y.pick [] rfl, T.1, rfl⟩ T.2
        · exact hK2 _ _ ⟨Y.pick [] rfl, T⟩
      · exact hK _ ⟨Y.pick [] rfl, T⟩
    · exact hK _ ⟨Y.pick [] rfl, T⟩
/-- tracery/weigh.number -/
def S27 (s : ByteArray) (h : Heap) (R : Value → Heap → Prop) : Prop :=
  callX Tryz.prog 35 #[.string s] h [] fun v hv =>
  ∃ r : ByteArray, v = .string r ∧
  callX Tryz.prog 36 #[.string r] hv [] fun v2 hv2 =>
  ∃ r2 : Int, v2 = .int .i64 r2 ∧
  cnd (r2 == (0 : Int))
    (R (.bool false) hv2)
    (0 ≤ r2 ∧ r2 ≤ ((r.size : Nat) : Int) ∧ let K := fun (s3 : ByteArray) (hv5 : Heap) =>
      (cnd (s3.toList == (⟨#[]⟩ : ByteArray).toList)
        (R (.bool true) hv5)
        (let K2 := fun (hv6 : Heap) =>
          (0 ≤ (1 : Int) ∧ (1 : Int) ≤ ((s3.size : Nat) : Int) ∧ callX Tryz.prog 35 #[.string (s3.extract (Int.toNat (1 : Int)) s3.size)] hv6 [] fun v4 hv7 =>
          ∃ r4 : ByteArray, v4 = .string r4 ∧
          cnd (decide (((r4.size : Nat) : Int) ≥ (1 : Int)))
            (cnd (decide (((r4.size : Nat) : Int) ≤ (4 : Int)))
              (callX Tryz.prog 36 #[.string r4] hv7 [] fun v5 hv8 =>
              ∃ r5 : Int, v5 = .int .i64 r5 ∧
              R (.bool (r5 == ((r4.size : Nat) : Int))) hv8)
              (R (.bool false) hv7))
            (R (.bool false) hv7))
        0 ≤ (0 : Int) ∧ (0 : Int) < ((s3.size : Nat) : Int) ∧ ∃ xc2 : UInt8, s3[Int.toNat (0 : Int)]? = some xc2 ∧ cnd (((UInt8.toNat xc2 : Nat) : Int) != (101 : Int))
          (0 ≤ (0 : Int) ∧ (0 : Int) < ((s3.size : Nat) : Int) ∧ ∃ xc3 : UInt8, s3[Int.toNat (0 : Int)]? = some xc3 ∧ cnd (((UInt8.toNat xc3 : Nat) : Int) != (69 : Int))
            (R (.bool false) hv5)
            (K2 hv5))
          (K2 hv5)))
    cnd (!((r.extract (Int.toNat r2) r.size).toList == (⟨#[]⟩ : ByteArray).toList))
      (0 ≤ (0 : Int) ∧ (0 : Int) < (((r.extract (Int.toNat r2) r.size).size : Nat) : Int) ∧ ∃ xc : UInt8, (r.extract (Int.toNat r2) r.size)[Int.toNat (0 : Int)]? = some xc ∧ ∃ Jv : List Value → Heap → Prop, -- join 19 ['s']
      ( cnd (((UInt8.toNat xc : Nat) : Int) == (46 : Int))
         (0 ≤ (1 : Int) ∧ (1 : Int) ≤ (((r.extract (Int.toNat r2) r.size).size : Nat) : Int) ∧ callX Tryz.prog 36 #[.string ((r.extract (Int.toNat r2) r.size).extract (Int.toNat (1 : Int)) (r.extract (Int.toNat r2) r.size).size)] hv2 [] fun v3 hv3 =>
         ∃ r3 : Int, v3 = .int .i64 r3 ∧
         cnd (r3 == (0 : Int))
           (R (.bool false) hv3)
           (0 ≤ (IntKind.i64.wrap ((1 : Int) + r3)) ∧ (IntKind.i64.wrap ((1 : Int) + r3)) ≤ (((r.extract (Int.toNat r2) r.size).size : Nat) : Int) ∧ Jv [.string ((r.extract (Int.toNat r2) r.size).extract (Int.toNat (IntKind.i64.wrap ((1 : Int) + r3))) (r.extract (Int.toNat r2) r.size).size)] hv3))
         (Jv [.string (r.extract (Int.toNat r2) r.size)] hv2)) ∧
      ∀ s2 : ByteArray, ∀ hv4, Jv [.string s2] hv4 →
      K s2 hv4)
      (K (r.extract (Int.toNat r2) r.size) hv2))
theorem calls27 {h : Heap} {R : Value → Heap → Prop} (s : ByteArray) (H : S27 s h R) : CallsH Tryz.prog 27 #[.string s] h R := by
  have e : S27 s h R = FX (envX [] 57) { loops := [], joins := [(19, ⟨[], [0], [], []⟩)], blocks := [], draws := [] } Tryz.f27 (Tryz.f27.body.getD .skip) [.string s] h R := by kernel_rfl
  exact calls_of_FX (envX_ok _ _) Tryz.func27 (by kernel_rfl) (by kernel_rfl) (by kernel_rfl) (e ▸ H)
/-- tracery/weigh.number -/
def Ok27 (s : ByteArray) (R : Bool → Prop) : Prop :=
  ∀ (h : Heap), Hp h [] → CallsH Tryz.prog 27 #[.string s] h fun v h' => ∃ (rV : Bool), Sy h [] h' [] ∧ v = .bool rV ∧ R rV
theorem Ok27.mono {s} {R R' : Bool → Prop} (H : Ok27 s R) (kz : ∀ rV, R rV → R' rV) : Ok27 s R' :=
  fun h  hp => (H h  hp).mono fun _ _ ⟨rV, P, e, q⟩ => ⟨rV, P, e, kz _ q⟩
def T27 (s : ByteArray) (R : Bool → Prop) : Prop :=
  Ok35 s (fun r =>
  Ok36 r (fun r2 =>
  cnd (r2 == (0 : Int))
    (R false)
    (0 ≤ r2 ∧ r2 ≤ ((r.size : Nat) : Int) ∧ ∃ Jv_2 : ByteArray → Prop,
    ( cnd (!((r.extract (Int.toNat r2) r.size).toList == (⟨#[]⟩ : ByteArray).toList))
       (0 ≤ (0 : Int) ∧ (0 : Int) < (((r.extract (Int.toNat r2) r.size).size : Nat) : Int) ∧ ∃ xc : UInt8, (r.extract (Int.toNat r2) r.size)[Int.toNat (0 : Int)]? = some xc ∧ ∃ Jv : ByteArray → Prop,
       ( cnd (((UInt8.toNat xc : Nat) : Int) == (46 : Int))
          (0 ≤ (1 : Int) ∧ (1 : Int) ≤ (((r.extract (Int.toNat r2) r.size).size : Nat) : Int) ∧ Ok36 ((r.extract (Int.toNat r2) r.size).extract (Int.toNat (1 : Int)) (r.extract (Int.toNat r2) r.size).size) (fun r3 =>
          cnd (r3 == (0 : Int))
            (R false)
            (0 ≤ (IntKind.i64.wrap ((1 : Int) + r3)) ∧ (IntKind.i64.wrap ((1 : Int) + r3)) ≤ (((r.extract (Int.toNat r2) r.size).size : Nat) : Int) ∧ Jv ((r.extract (Int.toNat r2) r.size).extract (Int.toNat (IntKind.i64.wrap ((1 : Int) + r3))) (r.extract (Int.toNat r2) r.size).size))))
          (Jv (r.extract (Int.toNat r2) r.size))) ∧
       ∀ s2 : ByteArray, Jv s2 →
       Jv_2 s2)
       (Jv_2 (r.extract (Int.toNat r2) r.size))) ∧
    ∀ s3 : ByteArray, Jv_2 s3 →
    cnd (s3.toList == (⟨#[]⟩ : ByteArray).toList)
      (R true)
      (∃ Jv_3 : Prop,
      ( 0 ≤ (0 : Int) ∧ (0 : Int) < ((s3.size : Nat) : Int) ∧ ∃ xc2 : UInt8, s3[Int.toNat (0 : Int)]? = some xc2 ∧ cnd (((UInt8.toNat xc2 : Nat) : Int) != (101 : Int))
         (0 ≤ (0 : Int) ∧ (0 : Int) < ((s3.size : Nat) : Int) ∧ ∃ xc3 : UInt8, s3[Int.toNat (0 : Int)]? = some xc3 ∧ cnd (((UInt8.toNat xc3 : Nat) : Int) != (69 : Int))
           (R false)
           (Jv_3))
         (Jv_3)) ∧
      (Jv_3 →
      0 ≤ (1 : Int) ∧ (1 : Int) ≤ ((s3.size : Nat) : Int) ∧ Ok35 (s3.extract (Int.toNat (1 : Int)) s3.size) (fun r4 =>
      cnd (decide (((r4.size : Nat) : Int) ≥ (1 : Int)))
        (cnd (decide (((r4.size : Nat) : Int) ≤ (4 : Int)))
          (Ok36 r4 (fun r5 =>
          R (r5 == ((r4.size : Nat) : Int))))
          (R false))
        (R false)))))))
theorem ok27 {s} {R : Bool → Prop} (T : T27 s R) : Ok27 s R := by
  intro h  H
  have Y : Sy h [] h _ := Sy.startM H rfl
  apply calls27
  unfold S27
  unfold T27 at T
  refine callX_sy (T _ (Hp.nil _)) (fun _ _ ⟨_, p, _⟩ => p.fr) alln ?_
  rintro v hv ⟨r, PP, rfl, T⟩
  have Y : Sy _ _ hv [] := Y.gr PP.fr
  clear PP
  refine ⟨r, rfl, ?_⟩
  refine callX_sy (T _ (Hp.nil _)) (fun _ _ ⟨_, p, _⟩ => p.fr) alln ?_
  rintro v2 hv2 ⟨r2, PP, rfl, T⟩
  have Y : Sy _ _ hv2 [] := Y.gr PP.fr
  clear PP
  refine ⟨r2, rfl, ?_⟩
  refine cnd_imp T (fun T => ?_) (fun T => ?_)
  · exact ⟨_, Y.pick [] rfl, rfl, T⟩
  · obtain ⟨q_13, q_14, T⟩ := T
    refine ⟨q_13, q_14, ?_⟩
    obtain ⟨Jv_2, T0, T1⟩ := T
    obtain ⟨B, hB, _⟩ := Y.cut [] [] rfl
    intro K
    have hK : ∀ (s3 : ByteArray) (hv5 : Heap), (Sy h [] hv5 ([] ++ B) ∧ Jv_2 s3) → K s3 hv5 := by
      subst hB
      clear T0 Y
      rintro s3 hv5 ⟨Y, T⟩
      replace T := T1 s3 T
      have Y : Sy _ _ _ [] := Y
      unfold K
      refine cnd_imp T (fun T => ?_) (fun T => ?_)
      · exact ⟨_, Y.pick [] rfl, rfl, T⟩
      · obtain ⟨Jv_3, T0, T1⟩ := T
        obtain ⟨B_2, hB_2, _⟩ := Y.cut [] [] rfl
        intro K2
        have hK2 : ∀  (hv6 : Heap), (Sy h [] hv6 ([] ++ B_2) ∧ Jv_3) → K2 hv6 := by
          subst hB_2
          clear T0 Y
          rintro hv6 ⟨Y, T⟩
          replace T := T1 T
          have Y : Sy _ _ _ [] := Y
          unfold K2
          obtain ⟨q, q_2, T⟩ := T
          refine ⟨q, q_2, ?_⟩
          refine callX_sy (T _ (Hp.nil _)) (fun _ _ ⟨_, p, _⟩ => p.fr) alln ?_
          rintro v4 hv7 ⟨r4, PP, rfl, T⟩
          have Y : Sy _ _ hv7 [] := Y.gr PP.fr
          clear PP
          refine ⟨r4, rfl, ?_⟩
          refine cnd_imp T (fun T => ?_) (fun T => ?_)
          · refine cnd_imp T (fun T => ?_) (fun T => ?_)
            · refine callX_sy (T _ (Hp.nil _)) (fun _ _ ⟨_, p, _⟩ => p.fr) alln ?_
              rintro v5 hv8 ⟨r5, PP, rfl, T⟩
              have Y : Sy _ _ hv8 [] := Y.gr PP.fr
              clear PP
              refine ⟨r5, rfl, ?_⟩
              exact ⟨_, Y.pick [] rfl, rfl, T⟩
            · exact ⟨_, Y.pick [] rfl, rfl, T⟩
          · exact ⟨_, Y.pick [] rfl, rfl, T⟩
        subst hB_2
        replace T := T0
        clear T0 T1
        obtain ⟨q_5, q_6, T⟩ := T
        refine ⟨q_5, q_6, ?_⟩
        obtain ⟨xc2, hq, T⟩ := T
        refine ⟨xc2, hq, ?_⟩
        refine cnd_imp T (fun T => ?_) (fun T => ?_)
        · obtain ⟨q_3, q_4, T⟩ := T
          refine ⟨q_3, q_4, ?_⟩
          obtain ⟨xc3, hq, T⟩ := T
          refine ⟨xc3, hq, ?_⟩
          refine cnd_imp T (fun T => ?_) (fun T => ?_)
          · exact ⟨_, Y.pick [] rfl, rfl, T⟩
          · exact hK2 _ ⟨Y.pick [] rfl, T⟩
        · exact hK2 _ ⟨Y.pick [] rfl, T⟩
    subst hB
    replace T := T0
    clear T0 T1
    refine cnd_imp T (fun T => ?_) (fun T => ?_)
    · obtain ⟨q_11, q_12, T⟩ := T
      refine ⟨q_11, q_12, ?_⟩
      obtain ⟨xc, hq, T⟩ := T
      refine ⟨xc, hq, ?_⟩
      obtain ⟨Jv, T0, T1⟩ := T
      obtain ⟨B_3, hB_3, _⟩ := Y.cut [] [] rfl
      refine ⟨fun lz h' => ∃ (s2 : ByteArray), lz = [.string s2] ∧ Sy h [] h' ([] ++ B_3) ∧ Jv s2, ?_, ?_⟩
      · subst hB_3
        replace T := T0
        clear T0 T1
        refine cnd_imp T (fun T => ?_) (fun T => ?_)
        · obtain ⟨q_9, q_10, T⟩ := T
          refine ⟨q_9, q_10, ?_⟩
          refine callX_sy (T _ (Hp.nil _)) (fun _ _ ⟨_, p, _⟩ => p.fr) alln ?_
          rintro v3 hv3 ⟨r3, PP, rfl, T⟩
          have Y : Sy _ _ hv3 [] := Y.gr PP.fr
          clear PP
          refine ⟨r3, rfl, ?_⟩
          refine cnd_imp T (fun T => ?_) (fun T => ?_)
          · exact ⟨_, Y.pick [] rfl, rfl, T⟩
          · obtain ⟨q_7, q_8, T⟩ := T
            refine ⟨q_7, q_8, ?_⟩
            exact ⟨_, rfl, Y.pick [] rfl, T⟩
        · exact ⟨_, rfl, Y.pick [] rfl, T⟩
      · subst hB_3
        clear T0 Y
        rintro s2 hv4 ⟨s2, e, Y, T⟩
        cases e
        replace T := T1 s2 T
        have Y : Sy _ _ _ [] := Y
        exact hK _ _ ⟨Y.pick [] rfl, T⟩
    · exact hK _ _ ⟨Y.pick [] rfl, T⟩
/-- strconv.ParseFloat -/
def S28 (s : ByteArray) (bitSize : Int) (h : Heap) (R : Value → Heap → Prop) : Prop :=
  callX Tryz.prog 37 #[.string s, .int .i64 bitSize] h [] fun v hv =>
  ∃ ra : Nat, ((v = .tuple #[.float .f64 ra, .nilIface] ∧
    cnd (!true)
      (callX Tryz.prog 38 #[.string (⟨#[80, 97, 114, 115, 101, 70, 108, 111, 97, 116]⟩ : ByteArray), .string s, .int .i64 0, .int .i64 bitSize, .nilIface] hv [] fun v2 hv2 =>
      ((v2 = .nilIface ∧
        R (.tuple #[.float .f64 ra, .nilIface]) hv2)
      ∨ ∃ (rT : Nat) (rI : Value), v2 = .iface rT rI ∧
        R (.tuple #[.float .f64 ra, .iface rT rI]) hv2))
      (R (.tuple #[.float .f64 ra, .nilIface]) hv))
  ∨ ∃ (rbT : Nat) (rbI : Value), v = .tuple #[.float .f64 ra, .iface rbT rbI] ∧
    cnd (!false)
      (callX Tryz.prog 38 #[.string (⟨#[80, 97, 114, 115, 101, 70, 108, 111, 97, 116]⟩ : ByteArray), .string s, .int .i64 0, .int .i64 bitSize, .iface rbT rbI] hv [] fun v3 hv3 =>
      ((v3 = .nilIface ∧
        R (.tuple #[.float .f64 ra, .nilIface]) hv3)
      ∨ ∃ (rT2 : Nat) (rI2 : Value), v3 = .iface rT2 rI2 ∧
        R (.tuple #[.float .f64 ra, .iface rT2 rI2]) hv3))
      (R (.tuple #[.float .f64 ra, .nilIface]) hv))
theorem calls28 {h : Heap} {R : Value → Heap → Prop} (s : ByteArray) (bitSize : Int) (H : S28 s bitSize h R) : CallsH Tryz.prog 28 #[.string s, .int .i64 bitSize] h R := by
  have e : S28 s bitSize h R = FX (envX [] 22) { loops := [], joins := [], blocks := [], draws := [] } Tryz.f28 (Tryz.f28.body.getD .skip) [.string s, .int .i64 bitSize] h R := by kernel_rfl
  exact calls_of_FX (envX_ok _ _) Tryz.func28 (by kernel_rfl) (by kernel_rfl) (by kernel_rfl) (e ▸ H)
/-- tracery/weigh.Read -/
def S10 (s : ByteArray) (h : Heap) (R : Value → Heap → Prop) : Prop :=
  cnd (s.toList == (⟨#[78, 97, 78]⟩ : ByteArray).toList)
    (callE Tryz.prog 13 #[.int .u64 9221120237041090561] fun v =>
    ∃ r : Nat, v = .float .f64 r ∧
    R (.tuple #[.float .f64 r, .int .i64 0]) h)
    (cnd (s.toList == (⟨#[73, 78, 70]⟩ : ByteArray).toList)
      (callX Tryz.prog 26 #[.int .i64 1] h [] fun v2 hv =>
      ∃ r2 : Nat, v2 = .float .f64 r2 ∧
      R (.tuple #[.float .f64 r2, .int .i64 0]) hv)
      (cnd (s.toList == (⟨#[45, 73, 78, 70]⟩ : ByteArray).toList)
        (callX Tryz.prog 26 #[.int .i64 (-1)] h [] fun v3 hv2 =>
        ∃ r3 : Nat, v3 = .float .f64 r3 ∧
        R (.tuple #[.float .f64 r3, .int .i64 0]) hv2)
        (callX Tryz.prog 27 #[.string s] h [] fun v4 hv3 =>
        ∃ r4 : Bool, v4 = .bool r4 ∧
        cnd (!r4)
          (R (.tuple #[.float .f64 0, .int .i64 17]) hv3)
          (cnd (decide (((s.size : Nat) : Int) > (64 : Int)))
            (R (.tuple #[.float .f64 0, .int .i64 23]) hv3)
            (let K := fun (x : Nat) (hv5 : Heap) =>
              (callX Tryz.prog 29 #[.float .f64 x, .int .i64 0] hv5 [] fun v6 hv6 =>
              ∃ r5 : Bool, v6 = .bool r5 ∧
              cnd r5
                (R (.tuple #[.float .f64 0, .int .i64 2]) hv6)
                (R (.tuple #[.float .f64 x, .int .i64 0]) hv6))
            callX Tryz.prog 28 #[.string s, .int .i64 64] hv3 [] fun v5 hv4 =>
            ∃ ra : Nat, ((v5 = .tuple #[.float .f64 ra, .nilIface] ∧
              K ra hv4)
            ∨ ∃ (rbT : Nat) (rbI : Value), v5 = .tuple #[.float .f64 ra, .iface rbT rbI] ∧
              K ra hv4))))))
theorem calls10 {h : Heap} {R : Value → Heap → Prop} (s : ByteArray) (H : S10 s h R) : CallsH Tryz.prog 10 #[.string s] h R := by
  have e : S10 s h R = FX (envX [] 32) { loops := [], joins := [], blocks := [], draws := [] } Tryz.f10 (Tryz.f10.body.getD .skip) [.string s] h R := by kernel_rfl
  exact calls_of_FX (envX_ok _ _) Tryz.func10 (by kernel_rfl) (by kernel_rfl) (by kernel_rfl) (e ▸ H)
/-- tracery/weigh.Read -/
def Ok10 (s : ByteArray) (R : Nat → Int → Prop) : Prop :=
  ∀ (h : Heap) (gl : GL), Hp h [Ck.glob gl] → CallsH Tryz.prog 10 #[.string s] h fun v h' => ∃ (raV : Nat) (rbV : Int), Sy h [] h' [] ∧ v = .tuple #[.float .f64 raV, .int .i64 rbV] ∧ R raV rbV
theorem Ok10.mono {s} {R R' : Nat → Int → Prop} (H : Ok10 s R) (kz : ∀ raV rbV, R raV rbV → R' raV rbV) : Ok10 s R' :=
  fun h gl hp => (H h gl hp).mono fun _ _ ⟨raV, rbV, P, e, q⟩ => ⟨raV, rbV, P, e, kz _ _ q⟩
/-- tracery/weigh.Text -/
def S16 (x : Nat) (h : Heap) (R : Value → Heap → Prop) : Prop :=
  cnd ((FloatKind.f64).format.order x x != some .eq)
    (R (.string (⟨#[78, 97, 78]⟩ : ByteArray)) h)
    (callX Tryz.prog 29 #[.float .f64 x, .int .i64 1] h [] fun v hv =>
    ∃ r : Bool, v = .bool r ∧
    cnd r
      (R (.string (⟨#[73, 78, 70]⟩ : ByteArray)) hv)
      (callX Tryz.prog 29 #[.float .f64 x, .int .i64 (-1)] hv [] fun v2 hv2 =>
      ∃ r2 : Bool, v2 = .bool r2 ∧
      cnd r2
        (R (.string (⟨#[45, 73, 78, 70]⟩ : ByteArray)) hv2)
        (callX Tryz.prog 33 #[.float .f64 x, .int .u8 103, .int .i64 (-1), .int .i64 64] hv2 [] fun v3 hv3 =>
        ∃ r3 : ByteArray, v3 = .string r3 ∧
        callX Tryz.prog 34 #[.string r3, .string (⟨#[46, 101]⟩ : ByteArray)] hv3 [] fun v4 hv4 =>
        ∃ r4 : Bool, v4 = .bool r4 ∧
        ∃ Jv : List Value → Heap → Prop, -- join 18 ['s']
        ( cnd (!r4)
           ((((r3.size + (⟨#[46, 48]⟩ : ByteArray).size : Nat)) : Int) ≤ 9223372036854775807 ∧ Jv [.string (r3 ++ (⟨#[46, 48]⟩ : ByteArray))] hv4)
           (Jv [.string r3] hv4)) ∧
        ∀ s : ByteArray, ∀ hv5, Jv [.string s] hv5 →
        R (.string s) hv5)))
theorem calls16 {h : Heap} {R : Value → Heap → Prop} (x : Nat) (H : S16 x h R) : CallsH Tryz.prog 16 #[.float .f64 x] h R := by
  have e : S16 x h R = FX (envX [] 22) { loops := [], joins := [(18, ⟨[], [3], [], []⟩)], blocks := [], draws := [] } Tryz.f16 (Tryz.f16.body.getD .skip) [.float .f64 x] h R := by kernel_rfl
  exact calls_of_FX (envX_ok _ _) Tryz.func16 (by kernel_rfl) (by kernel_rfl) (by kernel_rfl) (e ▸ H)
/-- tracery/weigh.Text -/
def Ok16 (x : Nat) (R : ByteArray → Prop) : Prop :=
  ∀ (h : Heap) (gl : GL), Hp h [Ck.glob gl] → CallsH Tryz.prog 16 #[.float .f64 x] h fun v h' => ∃ (rV : ByteArray), Sy h [] h' [] ∧ v = .string rV ∧ R rV
theorem Ok16.mono {x} {R R' : ByteArray → Prop} (H : Ok16 x R) (kz : ∀ rV, R rV → R' rV) : Ok16 x R' :=
  fun h gl hp => (H h gl hp).mono fun _ _ ⟨rV, P, e, q⟩ => ⟨rV, P, e, kz _ q⟩
def T16 (x : Nat) (R : ByteArray → Prop) : Prop :=
  cnd ((FloatKind.f64).format.order x x != some .eq)
    (R (⟨#[78, 97, 78]⟩ : ByteArray))
    (Ok29 x 1 (fun r =>
    cnd r
      (R (⟨#[73, 78, 70]⟩ : ByteArray))
      (Ok29 x (-1) (fun r2 =>
      cnd r2
        (R (⟨#[45, 73, 78, 70]⟩ : ByteArray))
        (Ok33 x 103 (-1) 64 (fun r3 =>
        Ok34 r3 (⟨#[46, 101]⟩ : ByteArray) (fun r4 =>
        ∃ Jv : ByteArray → Prop,
        ( cnd (!r4)
           ((((r3.size + (⟨#[46, 48]⟩ : ByteArray).size : Nat)) : Int) ≤ 9223372036854775807 ∧ Jv (r3 ++ (⟨#[46, 48]⟩ : ByteArray)))
           (Jv r3)) ∧
        ∀ s : ByteArray, Jv s →
        R s)))))))
theorem ok16 {x} {R : ByteArray → Prop} (T : T16 x R) : Ok16 x R := by
  intro h gl H
  have Y : Sy h [] h _ := Sy.startM H rfl
  apply calls16
  unfold S16
  unfold T16 at T
  refine cnd_imp T (fun T => ?_) (fun T => ?_)
  · exact ⟨_, Y.pick [] rfl, rfl, T⟩
  · refine callX_sy (T _ (Hp.nil _)) (fun _ _ ⟨_, p, _⟩ => p.fr) alln ?_
    rintro v hv ⟨r, PP, rfl, T⟩
    have Y : Sy _ _ hv [_] := Y.gr PP.fr
    clear PP
    refine ⟨r, rfl, ?_⟩
    refine cnd_imp T (fun T => ?_) (fun T => ?_)
    · exact ⟨_, Y.pick [] rfl, rfl, T⟩
    · refine callX_sy (T _ (Hp.nil _)) (fun _ _ ⟨_, p, _⟩ => p.fr) alln ?_
      rintro v2 hv2 ⟨r2, PP, rfl, T⟩
      have Y : Sy _ _ hv2 [_] := Y.gr PP.fr
      clear PP
      refine ⟨r2, rfl, ?_⟩
      refine cnd_imp T (fun T => ?_) (fun T => ?_)
      · exact ⟨_, Y.pick [] rfl, rfl, T⟩
      · refine callX_sy (T _ _ (Y.pick [0] rfl).hp) (fun _ _ ⟨_, p, _⟩ => p.fr) alln ?_
        rintro v3 hv3 ⟨r3, PP, rfl, T⟩
        have Y : Sy _ _ hv3 [_] := Y.gr PP.fr
        clear PP
        refine ⟨r3, rfl, ?_⟩
        refine callX_sy (T _ (Hp.nil _)) (fun _ _ ⟨_, p, _⟩ => p.fr) alln ?_
        rintro v4 hv4 ⟨r4, PP, rfl, T⟩
        have Y : Sy _ _ hv4 [_] := Y.gr PP.fr
        clear PP
        refine ⟨r4, rfl, ?_⟩
        obtain ⟨Jv, T0, T1⟩ := T
        obtain ⟨B, hB, _⟩ := Y.cut [] [0] rfl
        refine ⟨fun lz h' => ∃ (s : ByteArray), lz = [.string s] ∧ Sy h [] h' ([] ++ B) ∧ Jv s, ?_, ?_⟩
        · subst hB
          replace T := T0
          clear T0 T1
          refine cnd_imp T (fun T => ?_) (fun T => ?_)
          · obtain ⟨q, T⟩ := T
            refine ⟨q, ?_⟩
            exact ⟨_, rfl, Y.pick [0] rfl, T⟩
          · exact ⟨_, rfl, Y.pick [0] rfl, T⟩
        · subst hB
          clear T0 Y
          rintro s hv5 ⟨s, e, Y, T⟩
          cases e
          replace T := T1 s T
          have Y : Sy _ _ _ [_] := Y
          exact ⟨_, Y.pick [] rfl, rfl, T⟩
/-- tracery/traceryref1.Text -/
def S22 (x : Nat) (h : Heap) (R : Value → Heap → Prop) : Prop :=
  cnd ((FloatKind.f64).format.order x x != some .eq)
    (R (.string (⟨#[78, 97, 78]⟩ : ByteArray)) h)
    (callX Tryz.prog 29 #[.float .f64 x, .int .i64 1] h [] fun v hv =>
    ∃ r : Bool, v = .bool r ∧
    cnd r
      (R (.string (⟨#[73, 78, 70]⟩ : ByteArray)) hv)
      (callX Tryz.prog 29 #[.float .f64 x, .int .i64 (-1)] hv [] fun v2 hv2 =>
      ∃ r2 : Bool, v2 = .bool r2 ∧
      cnd r2
        (R (.string (⟨#[45, 73, 78, 70]⟩ : ByteArray)) hv2)
        (callX Tryz.prog 33 #[.float .f64 x, .int .u8 103, .int .i64 (-1), .int .i64 64] hv2 [] fun v3 hv3 =>
        ∃ r3 : ByteArray, v3 = .string r3 ∧
        ∃ (Iv : List Value → Heap → Prop) (m : List Value → Heap → Nat), Iv [.int .i64 0] hv3 ∧ -- loop 1: ['i']
        ∀ i : Int, ∀ hv4, Iv [.int .i64 i] hv4 →
        cnd (decide (i < ((r3.size : Nat) : Int)))
          (0 ≤ i ∧ i < ((r3.size : Nat) : Int) ∧ ∃ xc : UInt8, r3[Int.toNat i]? = some xc ∧ cnd (((UInt8.toNat xc : Nat) : Int) == (46 : Int))
            (R (.string r3) hv4)
            (0 ≤ i ∧ i < ((r3.size : Nat) : Int) ∧ ∃ xc2 : UInt8, r3[Int.toNat i]? = some xc2 ∧ cnd (((UInt8.toNat xc2 : Nat) : Int) == (101 : Int))
              (R (.string r3) hv4)
              (Iv [.int .i64 (IntKind.i64.wrap (i + (1 : Int)))] hv4 ∧ m [.int .i64 (IntKind.i64.wrap (i + (1 : Int)))] hv4 < m [.int .i64 i] hv4)))
          ((((r3.size + (⟨#[46, 48]⟩ : ByteArray).size : Nat)) : Int) ≤ 9223372036854775807 ∧ R (.string (r3 ++ (⟨#[46, 48]⟩ : ByteArray))) hv4))))
theorem calls22 {h : Heap} {R : Value → Heap → Prop} (x : Nat) (H : S22 x h R) : CallsH Tryz.prog 22 #[.float .f64 x] h R := by
  have e : S22 x h R = FX (envX [] 36) { loops := [(1, ⟨[3], [4], [], []⟩)], joins := [], blocks := [], draws := [] } Tryz.f22 (Tryz.f22.body.getD .skip) [.float .f64 x] h R := by kernel_rfl
  exact calls_of_FX (envX_ok _ _) Tryz.func22 (by kernel_rfl) (by kernel_rfl) (by kernel_rfl) (e ▸ H)
/-- tracery/traceryref1.Text -/
def Ok22 (x : Nat) (R : ByteArray → Prop) : Prop :=
  ∀ (h : Heap) (gl : GL), Hp h [Ck.glob gl] → CallsH Tryz.prog 22 #[.float .f64 x] h fun v h' => ∃ (rV : ByteArray), Sy h [] h' [] ∧ v = .string rV ∧ R rV
theorem Ok22.mono {x} {R R' : ByteArray → Prop} (H : Ok22 x R) (kz : ∀ rV, R rV → R' rV) : Ok22 x R' :=
  fun h gl hp => (H h gl hp).mono fun _ _ ⟨rV, P, e, q⟩ => ⟨rV, P, e, kz _ q⟩
def T22 (x : Nat) (R : ByteArray → Prop) : Prop :=
  cnd ((FloatKind.f64).format.order x x != some .eq)
    (R (⟨#[78, 97, 78]⟩ : ByteArray))
    (Ok29 x 1 (fun r =>
    cnd r
      (R (⟨#[73, 78, 70]⟩ : ByteArray))
      (Ok29 x (-1) (fun r2 =>
      cnd r2
        (R (⟨#[45, 73, 78, 70]⟩ : ByteArray))
        (Ok33 x 103 (-1) 64 (fun r3 =>
        ∃ (Iv : Int → Prop) (m : Int → Nat), Iv 0 ∧
        ∀ i : Int, Iv i →
        cnd (decide (i < ((r3.size : Nat) : Int)))
          (0 ≤ i ∧ i < ((r3.size : Nat) : Int) ∧ ∃ xc : UInt8, r3[Int.toNat i]? = some xc ∧ cnd (((UInt8.toNat xc : Nat) : Int) == (46 : Int))
            (R r3)
            (0 ≤ i ∧ i < ((r3.size : Nat) : Int) ∧ ∃ xc2 : UInt8, r3[Int.toNat i]? = some xc2 ∧ cnd (((UInt8.toNat xc2 : Nat) : Int) == (101 : Int))
              (R r3)
              (Iv (IntKind.i64.wrap (i + (1 : Int))) ∧ m (IntKind.i64.wrap (i + (1 : Int))) < m i)))
          ((((r3.size + (⟨#[46, 48]⟩ : ByteArray).size : Nat)) : Int) ≤ 9223372036854775807 ∧ R (r3 ++ (⟨#[46, 48]⟩ : ByteArray)))))))))
theorem ok22 {x} {R : ByteArray → Prop} (T : T22 x R) : Ok22 x R := by
  intro h gl H
  have Y : Sy h [] h _ := Sy.startM H rfl
  apply calls22
  unfold S22
  unfold T22 at T
  refine cnd_imp T (fun T => ?_) (fun T => ?_)
  · exact ⟨_, Y.pick [] rfl, rfl, T⟩
  · refine callX_sy (T _ (Hp.nil _)) (fun _ _ ⟨_, p, _⟩ => p.fr) alln ?_
    rintro v hv ⟨r, PP, rfl, T⟩
    have Y : Sy _ _ hv [_] := Y.gr PP.fr
    clear PP
    refine ⟨r, rfl, ?_⟩
    refine cnd_imp T (fun T => ?_) (fun T => ?_)
    · exact ⟨_, Y.pick [] rfl, rfl, T⟩
    · refine callX_sy (T _ (Hp.nil _)) (fun _ _ ⟨_, p, _⟩ => p.fr) alln ?_
      rintro v2 hv2 ⟨r2, PP, rfl, T⟩
      have Y : Sy _ _ hv2 [_] := Y.gr PP.fr
      clear PP
      refine ⟨r2, rfl, ?_⟩
      refine cnd_imp T (fun T => ?_) (fun T => ?_)
      · exact ⟨_, Y.pick [] rfl, rfl, T⟩
      · refine callX_sy (T _ _ (Y.pick [0] rfl).hp) (fun _ _ ⟨_, p, _⟩ => p.fr) alln ?_
        rintro v3 hv3 ⟨r3, PP, rfl, T⟩
        have Y : Sy _ _ hv3 [_] := Y.gr PP.fr
        clear PP
        refine ⟨r3, rfl, ?_⟩
        obtain ⟨Iv, m, T0, T1⟩ := T
        obtain ⟨B, hB, YB⟩ := Y.cut [] [0] rfl
        obtain ⟨JJ, hJJ⟩ : ∃ JJ : Nat → List Value → Heap → Prop, JJ = (fun k lz h' => ∃ (i : Int), lz = [.int .i64 i] ∧ Sy h [] h' ([] ++ B) ∧ Iv i ∧ m i = k) := ⟨_, rfl⟩
        refine ⟨fun lz h' => ∃ k, JJ k lz h', Lm JJ, ?_, ?_⟩
        · subst hJJ hB
          exact ⟨_, _, rfl, YB, T0, rfl⟩
        · clear YB T0 Y
          intro i hv4 hI
          obtain ⟨k, hI, hm⟩ := loopIn hI
          subst hJJ hB
          obtain ⟨i, e, Y, T, rfl⟩ := hI
          cases e
          replace T := T1 i T
          have Y : Sy _ _ _ [_] := Y
          refine cnd_imp T (fun T => ?_) (fun T => ?_)
          · obtain ⟨q_3, q_4, T⟩ := T
            refine ⟨q_3, q_4, ?_⟩
            obtain ⟨xc, hq, T⟩ := T
            refine ⟨xc, hq, ?_⟩
            refine cnd_imp T (fun T => ?_) (fun T => ?_)
            · exact ⟨_, Y.pick [] rfl, rfl, T⟩
            · obtain ⟨q, q_2, T⟩ := T
              refine ⟨q, q_2, ?_⟩
              obtain ⟨xc2, hq, T⟩ := T
              refine ⟨xc2, hq, ?_⟩
              refine cnd_imp T (fun T => ?_) (fun T => ?_)
              · exact ⟨_, Y.pick [] rfl, rfl, T⟩
              · exact loopBack hm ⟨_, rfl, Y.pick [0] rfl, T.1, rfl⟩ T.2
          · obtain ⟨q_5, T⟩ := T
            refine ⟨q_5, ?_⟩
            exact ⟨_, Y.pick [] rfl, rfl, T⟩
/-- tracery/tracerylaw1.Of -/
def S17 (usA : Option Addr) (usL usC : Nat) (h : Heap) (R : Value → Heap → Prop) : Prop :=
  ∃ (Iv : List Value → Heap → Prop) (m : List Value → Heap → Nat), Iv [.slice none 0 0, .int .i64 0] h ∧ -- loop 0: ['l', 'i']
  ∀ (lA : Option Addr) (lL lC : Nat), ∀ i : Int, ∀ hv, Iv [.slice lA lL lC, .int .i64 i] hv →
  cnd (decide (i < ((usL : Nat) : Int)))
    (∃ b o, usA = some ⟨b, o, none⟩ ∧ 0 ≤ i ∧ i < (usL : Nat) ∧ ∃ x : Int, hcell hv b (o + (Int.toNat i) * 1) = some (.int .u64 x) ∧ callE Tryz.prog 13 #[.int .u64 x] fun v =>
    ∃ r : Nat, v = .float .f64 r ∧
    let hv2 : Heap := hv.push (.cells #[.float .f64 r] 24)
    ∃ old, Ownd hv2 24 1 lA lL lC old ∧ (∀ b ∈ ([hv.size] : List Nat), b ∉ blkOf lA) ∧ (lL + 1) * 8 ≤ 140737488355328 ∧ (lL + 1) ≤ maxLen ∧
    ∀ sA sC hv3, Ownd hv3 24 1 sA (lL + 1) sC (old ++ [.float .f64 r]) → Fr (blkOf lA) hv2 hv3 → ((sA = lA ∧ sC = lC) ∨ ∃ g, sA = some ⟨g, 0, none⟩ ∧ hv2.size ≤ g) → (lC < (lL + 1) → Fr [] hv2 hv3) →
    Iv [.slice sA (lL + 1) sC, .int .i64 (IntKind.i64.wrap (i + (1 : Int)))] hv3 ∧ m [.slice sA (lL + 1) sC, .int .i64 (IntKind.i64.wrap (i + (1 : Int)))] hv3 < m [.slice lA lL lC, .int .i64 i] hv)
    (R (.slice lA lL lC) hv)
theorem calls17 {h : Heap} {R : Value → Heap → Prop} (usA : Option Addr) (usL usC : Nat) (H : S17 usA usL usC h R) : CallsH Tryz.prog 17 #[.slice usA usL usC] h R := by
  have e : S17 usA usL usC h R = FX (envX [17] 20) { loops := [(0, ⟨[0], [3, 4], [], []⟩)], joins := [], blocks := [], draws := [] } Tryz.f17 (Tryz.f17.body.getD .skip) [.slice usA usL usC] h R := by kernel_rfl
  exact calls_of_FX (envX_ok _ _) Tryz.func17 (by kernel_rfl) (by kernel_rfl) (by kernel_rfl) (e ▸ H)
/-- tracery/tracerylaw1.Of -/
def Ok17 (usV : List Int) (R : List Nat → Prop) : Prop :=
  ∀ (h : Heap) (usA : Option Addr) (usL usC : Nat), Hp h [Ck.vw (eK .u64) usA usL usC usV] → CallsH Tryz.prog 17 #[.slice usA usL usC] h fun v h' => ∃ (rVA : Option Addr) (rVL rVC : Nat) (rV : List Nat), Sy h [] h' [Ck.sl eF 24 rVA rVL rVC rV] ∧ v = .slice rVA rVL rVC ∧ R rV
theorem Ok17.mono {usV} {R R' : List Nat → Prop} (H : Ok17 usV R) (kz : ∀ rV, R rV → R' rV) : Ok17 usV R' :=
  fun h usA usL usC hp => (H h usA usL usC hp).mono fun _ _ ⟨rVA, rVL, rVC, rV, P, e, q⟩ => ⟨rVA, rVL, rVC, rV, P, e, kz _ q⟩
def T17 (usV : List Int) (R : List Nat → Prop) : Prop :=
  ∃ (Iv : List Nat → Int → Prop) (m : List Nat → Int → Nat), Iv ([] : List Nat) 0 ∧
  ∀ l : List Nat, ∀ i : Int, Iv l i →
  cnd (decide (i < ((usV.length : Nat) : Int)))
    (0 ≤ i ∧ i < ((usV.length : Nat) : Int) ∧ ∀ us : Int, usV[(Int.toNat i)]? = some us → callE Tryz.prog 13 #[.int .u64 us] fun v =>
    ∃ r : Nat, v = .float .f64 r ∧
    (l.length + 1) < 1000000000000 ∧ Iv (l ++ [r]) (IntKind.i64.wrap (i + (1 : Int))) ∧ m (l ++ [r]) (IntKind.i64.wrap (i + (1 : Int))) < m l i)
    (R l)
theorem ok17 {usV} {R : List Nat → Prop} (T : T17 usV R) : Ok17 usV R := by
  intro h usA usL usC H
  have Y : Sy h [] h _ := Sy.startM H rfl
  obtain rfl := Y.lenV 0 rfl
  apply calls17
  unfold S17
  unfold T17 at T
  have Y : Sy _ _ _ [_, _] := Y.nilS eF 24
  obtain ⟨Iv, m, T0, T1⟩ := T
  obtain ⟨B, hB, YB⟩ := Y.cut [1] [0] rfl
  obtain ⟨JJ, hJJ⟩ : ∃ JJ : Nat → List Value → Heap → Prop, JJ = (fun k lz h' => ∃ (lA : Option Addr) (lL lC : Nat) (l : List Nat) (i : Int), lz = [.slice lA lL lC, .int .i64 i] ∧ Sy h [] h' ([Ck.sl eF 24 lA lL lC l] ++ B) ∧ Iv l i ∧ m l i = k) := ⟨_, rfl⟩
  refine ⟨fun lz h' => ∃ k, JJ k lz h', Lm JJ, ?_, ?_⟩
  · subst hJJ hB
    exact ⟨_, _, _, _, _, _, rfl, YB, T0, rfl⟩
  · clear YB T0 Y
    intro lA lL lC i hv hI
    obtain ⟨k, hI, hm⟩ := loopIn hI
    subst hJJ hB
    obtain ⟨lA, lL, lC, l, i, e, Y, T, rfl⟩ := hI
    cases e
    obtain rfl := Y.lenS 0 rfl
    replace T := T1 l i T
    have Y : Sy _ _ _ [_, _] := Y
    refine cnd_imp T (fun T => ?_) (fun T => ?_)
    · obtain ⟨q, q_2, T⟩ := T
      obtain ⟨b_2, o_2, hb, hr, us, hx⟩ := Y.atV 1 rfl q q_2
      refine ⟨b_2, o_2, hb, q, q_2, ?_⟩
      replace T := T us hx
      refine ⟨_, Y.cellV 1 rfl hb (t := 0) hx rfl, ?_⟩
      obtain ⟨Rx, hx_2, T⟩ := T
      refine ⟨Rx, hx_2, fun v hv => ?_⟩
      obtain ⟨r, rfl, T⟩ := T v hv
      refine ⟨r, rfl, ?_⟩
      intro hv2
      have Y : Sy _ _ hv2 [_, _, _] := Y.junk _
      clear_value hv2
      obtain ⟨q_3, T⟩ := T
      refine ⟨_, Y.ownS 0 rfl, (allc (Y.nJ 0 2 rfl rfl rfl) alln), by first | exact appB q_3 (by decide) | omega, by first | exact appM q_3 | (simp [maxLen]; omega), ?_⟩
      intro sA sC hv3 ow fA gA gB
      have Y : Sy _ _ hv3 [_, _, _] := Y.appS 0 rfl ([r] : List Nat) ow fA gA rfl rfl
      exact loopBack hm ⟨_, _, _, _, _, rfl, Y.pick [0, 1] rfl, T.1, rfl⟩ T.2
    · exact ⟨_, _, _, _, Y.pick [0] rfl, rfl, T⟩
/-- tracery/tracerylaw1.begun -/
def S9  (h : Heap) (R : Value → Heap → Prop) : Prop :=
  callX Tryz.prog 10 #[.string (⟨#[43, 49, 46, 53, 48]⟩ : ByteArray)] h [] fun v hv =>
  ∃ ra : Nat, ∃ rb : Int, v = .tuple #[.float .f64 ra, .int .i64 rb] ∧
  callX Tryz.prog 10 #[.string (⟨#[105, 110, 102]⟩ : ByteArray)] hv [] fun v2 hv2 =>
  ∃ ra2 : Nat, ∃ rb2 : Int, v2 = .tuple #[.float .f64 ra2, .int .i64 rb2] ∧
  let K := fun (hv8 : Heap) =>
    (R (.bool false) hv8)
  callX Tryz.prog 18 #[.float .f64 4607182418800017408] hv2 [] fun v3 hv3 =>
  ∃ r : Bool, v3 = .bool r ∧
  cnd r
    (callX Tryz.prog 18 #[.float .f64 13830554455654793216] hv3 [] fun v4 hv4 =>
    ∃ r2 : Bool, v4 = .bool r2 ∧
    cnd (!r2)
      (callX Tryz.prog 16 #[.float .f64 4591870180066957722] hv4 [] fun v5 hv5 =>
      ∃ r3 : ByteArray, v5 = .string r3 ∧
      cnd (r3.toList == (⟨#[48, 46, 49]⟩ : ByteArray).toList)
        (callX Tryz.prog 16 #[.float .f64 4607182418800017408] hv5 [] fun v6 hv6 =>
        ∃ r4 : ByteArray, v6 = .string r4 ∧
        cnd (r4.toList == (⟨#[49, 46, 48]⟩ : ByteArray).toList)
          (cnd ((FloatKind.f64).format.order ra 4609434218613702656 == some .eq)
            (cnd (rb == (0 : Int))
              (cnd (rb2 == (17 : Int))
                (callX Tryz.prog 14 #[.float .f64 4607182418800017408, .float .f64 4611686018427387904] hv6 [] fun v7 hv7 =>
                ∃ r5 : Bool, v7 = .bool r5 ∧
                R (.bool r5) hv7)
                (K hv6))
              (K hv6))
            (K hv6))
          (K hv6))
        (K hv5))
      (K hv4))
    (K hv3)
theorem calls9 {h : Heap} {R : Value → Heap → Prop}  (H : S9  h R) : CallsH Tryz.prog 9 #[] h R := by
  have e : S9  h R = FX (envX [] 41) { loops := [], joins := [], blocks := [], draws := [] } Tryz.f9 (Tryz.f9.body.getD .skip) [] h R := by kernel_rfl
  exact calls_of_FX (envX_ok _ _) Tryz.func9 (by kernel_rfl) (by kernel_rfl) (by kernel_rfl) (e ▸ H)
/-- tracery/tracerylaw1.begun -/
def Ok9  (R : Bool → Prop) : Prop :=
  ∀ (h : Heap) (gl : GL), Hp h [Ck.glob gl] → CallsH Tryz.prog 9 #[] h fun v h' => ∃ (rV : Bool), Sy h [] h' [] ∧ v = .bool rV ∧ R rV
theorem Ok9.mono {R R' : Bool → Prop} (H : Ok9  R) (kz : ∀ rV, R rV → R' rV) : Ok9  R' :=
  fun h gl hp => (H h gl hp).mono fun _ _ ⟨rV, P, e, q⟩ => ⟨rV, P, e, kz _ q⟩
def T9  (R : Bool → Prop) : Prop :=
  Ok10 (⟨#[43, 49, 46, 53, 48]⟩ : ByteArray) (fun ra rb =>
  Ok10 (⟨#[105, 110, 102]⟩ : ByteArray) (fun ra2 rb2 =>
  ∃ Jv : Prop,
  ( Ok18 4607182418800017408 (fun r =>
   cnd r
     (Ok18 13830554455654793216 (fun r2 =>
     cnd (!r2)
       (Ok16 4591870180066957722 (fun r3 =>
       cnd (r3.toList == (⟨#[48, 46, 49]⟩ : ByteArray).toList)
         (Ok16 4607182418800017408 (fun r4 =>
         cnd (r4.toList == (⟨#[49, 46, 48]⟩ : ByteArray).toList)
           (cnd ((FloatKind.f64).format.order ra 4609434218613702656 == some .eq)
             (cnd (rb == (0 : Int))
               (cnd (rb2 == (17 : Int))
                 (Ok14 4607182418800017408 4611686018427387904 (fun r5 =>
                 R r5))
                 (Jv))
               (Jv))
             (Jv))
           (Jv)))
         (Jv)))
       (Jv)))
     (Jv))) ∧
  (Jv →
  R false)))
theorem ok9 {R : Bool → Prop} (T : T9  R) : Ok9  R := by
  intro h gl H
  have Y : Sy h [] h _ := Sy.startM H rfl
  apply calls9
  unfold S9
  unfold T9 at T
  refine callX_sy (T _ _ (Y.pick [0] rfl).hp) (fun _ _ ⟨_, _, p, _⟩ => p.fr) alln ?_
  rintro v hv ⟨ra, rb, PP, rfl, T⟩
  have Y : Sy _ _ hv [_] := Y.gr PP.fr
  clear PP
  refine ⟨ra, rb, rfl, ?_⟩
  refine callX_sy (T _ _ (Y.pick [0] rfl).hp) (fun _ _ ⟨_, _, p, _⟩ => p.fr) alln ?_
  rintro v2 hv2 ⟨ra2, rb2, PP, rfl, T⟩
  have Y : Sy _ _ hv2 [_] := Y.gr PP.fr
  clear PP
  refine ⟨ra2, rb2, rfl, ?_⟩
  obtain ⟨Jv, T0, T1⟩ := T
  obtain ⟨B, hB, _⟩ := Y.cut [] [0] rfl
  intro K
  have hK : ∀  (hv8 : Heap), (Sy h [] hv8 ([] ++ B) ∧ Jv) → K hv8 := by
    subst hB
    clear T0 Y
    rintro hv8 ⟨Y, T⟩
    replace T := T1 T
    have Y : Sy _ _ _ [_] := Y
    unfold K
    exact ⟨_, Y.pick [] rfl, rfl, T⟩
  subst hB
  replace T := T0
  clear T0 T1
  refine callX_sy (T _ (Hp.nil _)) (fun _ _ ⟨_, p, _⟩ => p.fr) alln ?_
  rintro v3 hv3 ⟨r, PP, rfl, T⟩
  have Y : Sy _ _ hv3 [_] := Y.gr PP.fr
  clear PP
  refine ⟨r, rfl, ?_⟩
  refine cnd_imp T (fun T => ?_) (fun T => ?_)
  · refine callX_sy (T _ (Hp.nil _)) (fun _ _ ⟨_, p, _⟩ => p.fr) alln ?_
    rintro v4 hv4 ⟨r2, PP, rfl, T⟩
    have Y : Sy _ _ hv4 [_] := Y.gr PP.fr
    clear PP
    refine ⟨r2, rfl, ?_⟩
    refine cnd_imp T (fun T => ?_) (fun T => ?_)
    · refine callX_sy (T _ _ (Y.pick [0] rfl).hp) (fun _ _ ⟨_, p, _⟩ => p.fr) alln ?_
      rintro v5 hv5 ⟨r3, PP, rfl, T⟩
      have Y : Sy _ _ hv5 [_] := Y.gr PP.fr
      clear PP
      refine ⟨r3, rfl, ?_⟩
      refine cnd_imp T (fun T => ?_) (fun T => ?_)
      · refine callX_sy (T _ _ (Y.pick [0] rfl).hp) (fun _ _ ⟨_, p, _⟩ => p.fr) alln ?_
        rintro v6 hv6 ⟨r4, PP, rfl, T⟩
        have Y : Sy _ _ hv6 [_] := Y.gr PP.fr
        clear PP
        refine ⟨r4, rfl, ?_⟩
        refine cnd_imp T (fun T => ?_) (fun T => ?_)
        · refine cnd_imp T (fun T => ?_) (fun T => ?_)
          · refine cnd_imp T (fun T => ?_) (fun T => ?_)
            · refine cnd_imp T (fun T => ?_) (fun T => ?_)
              · refine callX_sy (T _ (Hp.nil _)) (fun _ _ ⟨_, p, _⟩ => p.fr) alln ?_
                rintro v7 hv7 ⟨r5, PP, rfl, T⟩
                have Y : Sy _ _ hv7 [_] := Y.gr PP.fr
                clear PP
                refine ⟨r5, rfl, ?_⟩
                exact ⟨_, Y.pick [] rfl, rfl, T⟩
              · exact hK _ ⟨Y.pick [0] rfl, T⟩
            · exact hK _ ⟨Y.pick [0] rfl, T⟩
          · exact hK _ ⟨Y.pick [0] rfl, T⟩
        · exact hK _ ⟨Y.pick [0] rfl, T⟩
      · exact hK _ ⟨Y.pick [0] rfl, T⟩
    · exact hK _ ⟨Y.pick [0] rfl, T⟩
  · exact hK _ ⟨Y.pick [0] rfl, T⟩
/-- tracery/tracerylaw1.WeighAll -/
def S7 (usA : Option Addr) (usL usC : Nat) (h : Heap) (R : Value → Heap → Prop) : Prop :=
  callX Tryz.prog 9 #[] h [] fun v hv =>
  ∃ r : Bool, v = .bool r ∧
  cnd (!r)
    (R (.bool false) hv)
    (callX Tryz.prog 17 #[.slice usA usL usC] hv [] fun v2 hv2 =>
    ∃ (rA : Option Addr) (rL rC : Nat), v2 = .slice rA rL rC ∧
    let K3 := fun (hv19 : Heap) =>
      (R (.bool true) hv19)
    ∃ (Iv : List Value → Heap → Prop) (m : List Value → Heap → Nat), Iv [.int .i64 0] hv2 ∧ -- loop 0: ['i']
    ∀ i : Int, ∀ hv3, Iv [.int .i64 i] hv3 →
    cnd (decide (i < ((rL : Nat) : Int)))
      (cnd (decide (i < (30 : Int)))
        (let K2 := fun (hv18 : Heap) =>
          (Iv [.int .i64 (IntKind.i64.wrap (i + (1 : Int)))] hv18 ∧ m [.int .i64 (IntKind.i64.wrap (i + (1 : Int)))] hv18 < m [.int .i64 i] hv3)
        let K := fun (hv11 : Heap) =>
          (R (.bool false) hv11)
        ∃ b o, rA = some ⟨b, o, none⟩ ∧ 0 ≤ i ∧ i < (rL : Nat) ∧ ∃ x : Nat, hcell hv3 b (o + (Int.toNat i) * 1) = some (.float .f64 x) ∧ ∃ b2 o2, rA = some ⟨b2, o2, none⟩ ∧ 0 ≤ i ∧ i < (rL : Nat) ∧ ∃ x2 : Nat, hcell hv3 b2 (o2 + (Int.toNat i) * 1) = some (.float .f64 x2) ∧ callX Tryz.prog 18 #[.float .f64 x] hv3 [] fun v3 hv4 =>
        ∃ r2 : Bool, v3 = .bool r2 ∧
        Fr [] hv3 hv4 ∧
        callX Tryz.prog 19 #[.float .f64 x2] hv4 [] fun v4 hv5 =>
        ∃ r3 : Bool, v4 = .bool r3 ∧
        Fr [] hv3 hv5 ∧
        cnd (!(r2 == r3))
          (Fr [] hv3 hv5 ∧
          Fr [] hv3 hv5 ∧
          Fr [] hv3 hv5 ∧
          Fr [] hv3 hv5 ∧
          Fr [] hv3 hv5 ∧
          K hv5)
          (∃ b3 o3, rA = some ⟨b3, o3, none⟩ ∧ 0 ≤ i ∧ i < (rL : Nat) ∧ ∃ x3 : Nat, hcell hv3 b3 (o3 + (Int.toNat i) * 1) = some (.float .f64 x3) ∧ ∃ b4 o4, rA = some ⟨b4, o4, none⟩ ∧ 0 ≤ i ∧ i < (rL : Nat) ∧ ∃ x4 : Nat, hcell hv3 b4 (o4 + (Int.toNat i) * 1) = some (.float .f64 x4) ∧ callX Tryz.prog 20 #[.float .f64 x3] hv5 [] fun v5 hv6 =>
          ∃ r4 : Nat, v5 = .float .f64 r4 ∧
          Fr [] hv3 hv6 ∧
          callX Tryz.prog 21 #[.float .f64 x4] hv6 [] fun v6 hv7 =>
          ∃ r5 : Nat, v6 = .float .f64 r5 ∧
          Fr [] hv3 hv7 ∧
          callX Tryz.prog 12 #[.float .f64 r4, .float .f64 r5] hv7 [] fun v7 hv8 =>
          ∃ r6 : Bool, v7 = .bool r6 ∧
          Fr [] hv3 hv8 ∧
          cnd (!r6)
            (Fr [] hv3 hv8 ∧
            Fr [] hv3 hv8 ∧
            K hv8)
            (∃ b5 o5, rA = some ⟨b5, o5, none⟩ ∧ 0 ≤ i ∧ i < (rL : Nat) ∧ ∃ x5 : Nat, hcell hv3 b5 (o5 + (Int.toNat i) * 1) = some (.float .f64 x5) ∧ ∃ b6 o6, rA = some ⟨b6, o6, none⟩ ∧ 0 ≤ i ∧ i < (rL : Nat) ∧ ∃ x6 : Nat, hcell hv3 b6 (o6 + (Int.toNat i) * 1) = some (.float .f64 x6) ∧ callX Tryz.prog 16 #[.float .f64 x5] hv8 [] fun v8 hv9 =>
            ∃ r7 : ByteArray, v8 = .string r7 ∧
            Fr [] hv3 hv9 ∧
            callX Tryz.prog 22 #[.float .f64 x6] hv9 [] fun v9 hv10 =>
            ∃ r8 : ByteArray, v9 = .string r8 ∧
            Fr [] hv3 hv10 ∧
            cnd (!(r7.toList == r8.toList))
              (R (.bool false) hv10)
              (∃ (Iv2 : List Value → Heap → Prop) (m2 : List Value → Heap → Nat), Iv2 [.int .i64 0] hv10 ∧ -- loop 2: ['k']
              ∀ k : Int, ∀ hv12, Iv2 [.int .i64 k] hv12 →
              cnd (decide (k < ((rL : Nat) : Int)))
                (cnd (decide (k < (30 : Int)))
                  (∃ b7 o7, rA = some ⟨b7, o7, none⟩ ∧ 0 ≤ i ∧ i < (rL : Nat) ∧ ∃ x7 : Nat, hcell hv12 b7 (o7 + (Int.toNat i) * 1) = some (.float .f64 x7) ∧ ∃ b8 o8, rA = some ⟨b8, o8, none⟩ ∧ 0 ≤ k ∧ k < (rL : Nat) ∧ ∃ x8 : Nat, hcell hv12 b8 (o8 + (Int.toNat k) * 1) = some (.float .f64 x8) ∧ ∃ b9 o9, rA = some ⟨b9, o9, none⟩ ∧ 0 ≤ i ∧ i < (rL : Nat) ∧ ∃ x9 : Nat, hcell hv12 b9 (o9 + (Int.toNat i) * 1) = some (.float .f64 x9) ∧ ∃ b10 o10, rA = some ⟨b10, o10, none⟩ ∧ 0 ≤ k ∧ k < (rL : Nat) ∧ ∃ x10 : Nat, hcell hv12 b10 (o10 + (Int.toNat k) * 1) = some (.float .f64 x10) ∧ callX Tryz.prog 23 #[.float .f64 x7, .float .f64 x8] hv12 [] fun v10 hv13 =>
                  ∃ r9 : Nat, v10 = .float .f64 r9 ∧
                  Fr [] hv12 hv13 ∧
                  callX Tryz.prog 24 #[.float .f64 x9, .float .f64 x10] hv13 [] fun v11 hv14 =>
                  ∃ r10 : Nat, v11 = .float .f64 r10 ∧
                  Fr [] hv12 hv14 ∧
                  callX Tryz.prog 12 #[.float .f64 r9, .float .f64 r10] hv14 [] fun v12 hv15 =>
                  ∃ r11 : Bool, v12 = .bool r11 ∧
                  Fr [] hv12 hv15 ∧
                  cnd (!r11)
                    (Fr [] hv12 hv15 ∧
                    Fr [] hv12 hv15 ∧
                    R (.bool false) hv15)
                    (∃ b11 o11, rA = some ⟨b11, o11, none⟩ ∧ 0 ≤ i ∧ i < (rL : Nat) ∧ ∃ x11 : Nat, hcell hv12 b11 (o11 + (Int.toNat i) * 1) = some (.float .f64 x11) ∧ ∃ b12 o12, rA = some ⟨b12, o12, none⟩ ∧ 0 ≤ k ∧ k < (rL : Nat) ∧ ∃ x12 : Nat, hcell hv12 b12 (o12 + (Int.toNat k) * 1) = some (.float .f64 x12) ∧ ∃ b13 o13, rA = some ⟨b13, o13, none⟩ ∧ 0 ≤ i ∧ i < (rL : Nat) ∧ ∃ x13 : Nat, hcell hv12 b13 (o13 + (Int.toNat i) * 1) = some (.float .f64 x13) ∧ ∃ b14 o14, rA = some ⟨b14, o14, none⟩ ∧ 0 ≤ k ∧ k < (rL : Nat) ∧ ∃ x14 : Nat, hcell hv12 b14 (o14 + (Int.toNat k) * 1) = some (.float .f64 x14) ∧ callX Tryz.prog 14 #[.float .f64 x11, .float .f64 x12] hv15 [] fun v13 hv16 =>
                    ∃ r12 : Bool, v13 = .bool r12 ∧
                    Fr [] hv12 hv16 ∧
                    callX Tryz.prog 25 #[.float .f64 x13, .float .f64 x14] hv16 [] fun v14 hv17 =>
                    ∃ r13 : Bool, v14 = .bool r13 ∧
                    Fr [] hv12 hv17 ∧
                    cnd (!(r12 == r13))
                      (R (.bool false) hv17)
                      (Iv2 [.int .i64 (IntKind.i64.wrap (k + (1 : Int)))] hv17 ∧ m2 [.int .i64 (IntKind.i64.wrap (k + (1 : Int)))] hv17 < m2 [.int .i64 k] hv12)))
                  (K2 hv12))
                (K2 hv12)))))
        (K3 hv3))
      (K3 hv3))
theorem calls7 {h : Heap} {R : Value → Heap → Prop} (usA : Option Addr) (usL usC : Nat) (H : S7 usA usL usC h R) : CallsH Tryz.prog 7 #[.slice usA usL usC] h R := by
  have e : S7 usA usL usC h R = FX (envX [] 109) { loops := [(0, ⟨[3], [4], [], []⟩), (2, ⟨[3, 4], [5], [], []⟩)], joins := [], blocks := [], draws := [(7, ⟨38, false⟩), (12, ⟨41, false⟩)] } Tryz.f7 (Tryz.f7.body.getD .skip) [.slice usA usL usC] h R := by kernel_rfl
  exact calls_of_FX (envX_ok _ _) Tryz.func7 (by kernel_rfl) (by kernel_rfl) (by kernel_rfl) (e ▸ H)
/-- tracery/tracerylaw1.WeighAll -/
def Ok7 (usV : List Int) (R : Bool → Prop) : Prop :=
  ∀ (h : Heap) (gl : GL) (usA : Option Addr) (usL usC : Nat), Hp h [Ck.glob gl, Ck.vw (eK .u64) usA usL usC usV] → CallsH Tryz.prog 7 #[.slice usA usL usC] h fun v h' => ∃ (rV : Bool), Sy h [] h' [] ∧ v = .bool rV ∧ R rV
theorem Ok7.mono {usV} {R R' : Bool → Prop} (H : Ok7 usV R) (kz : ∀ rV, R rV → R' rV) : Ok7 usV R' :=
  fun h gl usA usL usC hp => (H h gl usA usL usC hp).mono fun _ _ ⟨rV, P, e, q⟩ => ⟨rV, P, e, kz _ q⟩
def T7 (usV : List Int) (R : Bool → Prop) : Prop :=
  Ok9 (fun r =>
  cnd (!r)
    (R false)
    (Ok17 usV (fun r_2 =>
    ∃ Jv : Prop,
    ( ∃ (Iv : Int → Prop) (m : Int → Nat), Iv 0 ∧
     ∀ i : Int, Iv i →
     cnd (decide (i < ((r_2.length : Nat) : Int)))
       (cnd (decide (i < (30 : Int)))
         (∃ Jv_2 : Prop,
         ( ∃ Jv_3 : Prop,
          ( 0 ≤ i ∧ i < ((r_2.length : Nat) : Int) ∧ ∀ r_3 : Nat, r_2[(Int.toNat i)]? = some r_3 → Ok18 r_3 (fun r2 =>
           Ok19 r_3 (fun r3 =>
           cnd (!(r2 == r3))
             (Jv_3)
             (Ok20 r_3 (fun r4 =>
             Ok21 r_3 (fun r5 =>
             Ok12 r4 r5 (fun r6 =>
             cnd (!r6)
               (Jv_3)
               (Ok16 r_3 (fun r7 =>
               Ok22 r_3 (fun r8 =>
               cnd (!(r7.toList == r8.toList))
                 (R false)
                 (∃ (Iv2 : Int → Prop) (m2 : Int → Nat), Iv2 0 ∧
                 ∀ k : Int, Iv2 k →
                 cnd (decide (k < ((r_2.length : Nat) : Int)))
                   (cnd (decide (k < (30 : Int)))
                     (0 ≤ k ∧ k < ((r_2.length : Nat) : Int) ∧ ∀ r_4 : Nat, r_2[(Int.toNat k)]? = some r_4 → Ok23 r_3 r_4 (fun r9 =>
                     Ok24 r_3 r_4 (fun r10 =>
                     Ok12 r9 r10 (fun r11 =>
                     cnd (!r11)
                       (R false)
                       (Ok14 r_3 r_4 (fun r12 =>
                       Ok25 r_3 r_4 (fun r13 =>
                       cnd (!(r12 == r13))
                         (R false)
                         (Iv2 (IntKind.i64.wrap (k + (1 : Int))) ∧ m2 (IntKind.i64.wrap (k + (1 : Int))) < m2 k))))))))
                     (Jv_2))
                   (Jv_2)))))))))))) ∧
          (Jv_3 →
          R false)) ∧
         (Jv_2 →
         Iv (IntKind.i64.wrap (i + (1 : Int))) ∧ m (IntKind.i64.wrap (i + (1 : Int))) < m i))
         (Jv))
       (Jv)) ∧
    (Jv →
    R true))))
theorem ok7 {usV} {R : Bool → Prop} (T : T7 usV R) : Ok7 usV R := by
  intro h gl usA usL usC H
  have Y : Sy h [] h _ := Sy.startM H rfl
  obtain rfl := Y.lenV 1 rfl
  apply calls7
  unfold S7
  unfold T7 at T
  refine callX_sy (T _ _ (Y.pick [0] rfl).hp) (fun _ _ ⟨_, p, _⟩ => p.fr) alln ?_
  rintro v hv ⟨r, PP, rfl, T⟩
  have Y : Sy _ _ hv [_, _] := Y.gr PP.fr
  clear PP
  refine ⟨r, rfl, ?_⟩
  refine cnd_imp T (fun T => ?_) (fun T => ?_)
  · exact ⟨_, Y.pick [] rfl, rfl, T⟩
  · refine callX_sy (T _ _ _ _ (Y.pick [1] rfl).hp) (fun _ _ ⟨_, _, _, _, p, _⟩ => p.fr) alln ?_
    rintro v2 hv2 ⟨rA, rL, rC, r_2, PP, rfl, T⟩
    have Y : Sy _ _ hv2 [_, _, _] := Y.callV PP ⟨rfl, trivial⟩
    clear PP
    obtain rfl := Y.lenS 2 rfl
    refine ⟨_, _, _, rfl, ?_⟩
    obtain ⟨Jv, T0, T1⟩ := T
    obtain ⟨B, hB, _⟩ := Y.cut [] [0, 1, 2] rfl
    intro K3
    have hK3 : ∀  (hv19 : Heap), (Sy h [] hv19 ([] ++ B) ∧ Jv) → K3 hv19 := by
      subst hB
      clear T0 Y
      rintro hv19 ⟨Y, T⟩
      replace T := T1 T
      have Y : Sy _ _ _ [_, _, _] := Y
      unfold K3
      exact ⟨_, Y.pick [] rfl, rfl, T⟩
    subst hB
    replace T := T0
    clear T0 T1
    obtain ⟨Iv, m, T0, T1⟩ := T
    obtain ⟨B_2, hB_2, YB⟩ := Y.cut [] [0, 1, 2] rfl
    obtain ⟨JJ, hJJ⟩ : ∃ JJ : Nat → List Value → Heap → Prop, JJ = (fun k_2 lz h' => ∃ (i : Int), lz = [.int .i64 i] ∧ Sy h [] h' ([] ++ B_2) ∧ Iv i ∧ m i = k_2) := ⟨_, rfl⟩
    refine ⟨fun lz h' => ∃ k_2, JJ k_2 lz h', Lm JJ, ?_, ?_⟩
    · subst hJJ hB_2
      exact ⟨_, _, rfl, YB, T0, rfl⟩
    · clear YB T0 Y
      intro i hv3 hI
      obtain ⟨k_2, hI, hm⟩ := loopIn hI
      subst hJJ hB_2
      obtain ⟨i, e, Y, T, rfl⟩ := hI
      cases e
      replace T := T1 i T
      have Y : Sy _ _ _ [_, _, _] := Y
      refine cnd_imp T (fun T => ?_) (fun T => ?_)
      · refine cnd_imp T (fun T => ?_) (fun T => ?_)
        · obtain ⟨Jv_2, T0, T1⟩ := T
          obtain ⟨B_3, hB_3, _⟩ := Y.cut [] [0, 1, 2] rfl
          intro K2
          have hK2 : ∀  (hv18 : Heap), (Sy h [] hv18 ([] ++ B_3) ∧ Jv_2) → K2 hv18 := by
            subst hB_3
            clear T0 Y
            rintro hv18 ⟨Y, T⟩
            replace T := T1 T
            have Y : Sy _ _ _ [_, _, _] := Y
            unfold K2
            exact loopBack hm ⟨_, rfl, Y.pick [0, 1, 2] rfl, T.1, rfl⟩ T.2
          subst hB_3
          replace T := T0
          clear T0 T1
          obtain ⟨Jv_3, T0, T1⟩ := T
          obtain ⟨B_4, hB_4, _⟩ := Y.cut [] [0, 1, 2] rfl
          intro K
          have hK : ∀  (hv11 : Heap), (Sy h [] hv11 ([] ++ B_4) ∧ Jv_3) → K hv11 := by
            subst hB_4
            clear T0 Y
            rintro hv11 ⟨Y, T⟩
            replace T := T1 T
            have Y : Sy _ _ _ [_, _, _] := Y
            unfold K
            exact ⟨_, Y.pick [] rfl, rfl, T⟩
          subst hB_4
          replace T := T0
          clear T0 T1
          have Y0 := Y
          have F : Fr [] hv3 hv3 := Fr.refl _ _
          obtain ⟨q, q_2, T⟩ := T
          obtain ⟨b_2, hb, ho, r_3, hx⟩ := Y0.atS 2 rfl q q_2
          refine ⟨b_2, 0, hb, q, q_2, ?_⟩
          replace T := T r_3 hx
          refine ⟨_, Y0.cellS 2 rfl hb (t := 0) hx rfl, ?_⟩
          refine ⟨b_2, 0, hb, q, q_2, ?_⟩
          refine ⟨_, Y0.cellS 2 rfl hb (t := 0) hx rfl, ?_⟩
          refine callX_sy (T _ (Hp.nil _)) (fun _ _ ⟨_, p, _⟩ => p.fr) alln ?_
          rintro v3 hv4 ⟨r2, PP, rfl, T⟩
          have F : Fr _ _ hv4 := F.trans PP.fr.nil
          have fshv4 := F.size
          have Y : Sy _ _ hv4 [_, _, _] := Y.gr PP.fr
          clear PP
          refine ⟨r2, rfl, ?_⟩
          refine ⟨F, ?_⟩
          refine callX_sy (T _ (Hp.nil _)) (fun _ _ ⟨_, p, _⟩ => p.fr) alln ?_
          rintro v4 hv5 ⟨r3, PP, rfl, T⟩
          have F : Fr _ _ hv5 := F.trans PP.fr.nil
          have fshv5 := F.size
          have Y : Sy _ _ hv5 [_, _, _] := Y.gr PP.fr
          clear PP
          refine ⟨r3, rfl, ?_⟩
          refine ⟨F, ?_⟩
          refine cnd_imp T (fun T => ?_) (fun T => ?_)
          · refine ⟨F, ?_⟩
            refine ⟨F, ?_⟩
            refine ⟨F, ?_⟩
            refine ⟨F, ?_⟩
            refine ⟨F, ?_⟩
            exact hK _ ⟨Y.pick [0, 1, 2] rfl, T⟩
          · refine ⟨b_2, 0, hb, q, q_2, ?_⟩
            refine ⟨_, Y0.cellS 2 rfl hb (t := 0) hx rfl, ?_⟩
            refine ⟨b_2, 0, hb, q, q_2, ?_⟩
            refine ⟨_, Y0.cellS 2 rfl hb (t := 0) hx rfl, ?_⟩
            refine callX_sy (T _ (Hp.nil _)) (fun _ _ ⟨_, p, _⟩ => p.fr) alln ?_
            rintro v5 hv6 ⟨r4, PP, rfl, T⟩
            have F : Fr _ _ hv6 := F.trans PP.fr.nil
            have fshv6 := F.size
            have Y : Sy _ _ hv6 [_, _, _] := Y.gr PP.fr
            clear PP
            refine ⟨r4, rfl, ?_⟩
            refine ⟨F, ?_⟩
            refine callX_sy (T _ (Hp.nil _)) (fun _ _ ⟨_, p, _⟩ => p.fr) alln ?_
            rintro v6 hv7 ⟨r5, PP, rfl, T⟩
            have F : Fr _ _ hv7 := F.trans PP.fr.nil
            have fshv7 := F.size
            have Y : Sy _ _ hv7 [_, _, _] := Y.gr PP.fr
            clear PP
            refine ⟨r5, rfl, ?_⟩
            refine ⟨F, ?_⟩
            refine callX_sy (T _ (Hp.nil _)) (fun _ _ ⟨_, p, _⟩ => p.fr) alln ?_
            rintro v7 hv8 ⟨r6, PP, rfl, T⟩
            have F : Fr _ _ hv8 := F.trans PP.fr.nil
            have fshv8 := F.size
            have Y : Sy _ _ hv8 [_, _, _] := Y.gr PP.fr
            clear PP
            refine ⟨r6, rfl, ?_⟩
            refine ⟨F, ?_⟩
            refine cnd_imp T (fun T => ?_) (fun T => ?_)
            · refine ⟨F, ?_⟩
              refine ⟨F, ?_⟩
              exact hK _ ⟨Y.pick [0, 1, 2] rfl, T⟩
            · refine ⟨b_2, 0, hb, q, q_2, ?_⟩
              refine ⟨_, Y0.cellS 2 rfl hb (t := 0) hx rfl, ?_⟩
              refine ⟨b_2, 0, hb, q, q_2, ?_⟩
              refine ⟨_, Y0.cellS 2 rfl hb (t := 0) hx rfl, ?_⟩
              refine callX_sy (T _ _ (Y.pick [0] rfl).hp) (fun _ _ ⟨_, p, _⟩ => p.fr) alln ?_
              rintro v8 hv9 ⟨r7, PP, rfl, T⟩
              have F : Fr _ _ hv9 := F.trans PP.fr.nil
              have fshv9 := F.size
              have Y : Sy _ _ hv9 [_, _, _] := Y.gr PP.fr
              clear PP
              refine ⟨r7, rfl, ?_⟩
              refine ⟨F, ?_⟩
              refine callX_sy (T _ _ (Y.pick [0] rfl).hp) (fun _ _ ⟨_, p, _⟩ => p.fr) alln ?_
              rintro v9 hv10 ⟨r8, PP, rfl, T⟩
              have F : Fr _ _ hv10 := F.trans PP.fr.nil
              have fshv10 := F.size
              have Y : Sy _ _ hv10 [_, _, _] := Y.gr PP.fr
              clear PP
              refine ⟨r8, rfl, ?_⟩
              refine ⟨F, ?_⟩
              refine cnd_imp T (fun T => ?_) (fun T => ?_)
              · exact ⟨_, Y.pick [] rfl, rfl, T⟩
              · obtain ⟨Iv2, m2, T0, T1⟩ := T
                obtain ⟨B_5, hB_5, YB⟩ := Y.cut [] [0, 1, 2] rfl
                obtain ⟨JJ_2, hJJ_2⟩ : ∃ JJ_2 : Nat → List Value → Heap → Prop, JJ_2 = (fun k_3 lz h' => ∃ (k : Int), lz = [.int .i64 k] ∧ Sy h [] h' ([] ++ B_5) ∧ Iv2 k ∧ m2 k = k_3) := ⟨_, rfl⟩
                refine ⟨fun lz h' => ∃ k_3, JJ_2 k_3 lz h', Lm JJ_2, ?_, ?_⟩
                · subst hJJ_2 hB_5
                  exact ⟨_, _, rfl, YB, T0, rfl⟩
                · clear YB T0 Y
                  intro k hv12 hI
                  obtain ⟨k_3, hI, hm_2⟩ := loopIn hI
                  subst hJJ_2 hB_5
                  obtain ⟨k, e, Y, T, rfl⟩ := hI
                  cases e
                  replace T := T1 k T
                  have Y : Sy _ _ _ [_, _, _] := Y
                  refine cnd_imp T (fun T => ?_) (fun T => ?_)
                  · refine cnd_imp T (fun T => ?_) (fun T => ?_)
                    · have Y0 := Y
                      have F : Fr [] hv12 hv12 := Fr.refl _ _
                      refine ⟨b_2, 0, hb, q, q_2, ?_⟩
                      refine ⟨_, Y0.cellS 2 rfl hb (t := 0) hx rfl, ?_⟩
                      obtain ⟨q_3, q_4, T⟩ := T
                      obtain ⟨b_3, hb_2, ho_2, r_4, hx_2⟩ := Y0.atS 2 rfl q_3 q_4
                      refine ⟨b_3, 0, hb_2, q_3, q_4, ?_⟩
                      replace T := T r_4 hx_2
                      refine ⟨_, Y0.cellS 2 rfl hb_2 (t := 0) hx_2 rfl, ?_⟩
                      refine ⟨b_2, 0, hb, q, q_2, ?_⟩
                      refine ⟨_, Y0.cellS 2 rfl hb (t := 0) hx rfl, ?_⟩
                      refine ⟨b_3, 0, hb_2, q_3, q_4, ?_⟩
                      refine ⟨_, Y0.cellS 2 rfl hb_2 (t := 0) hx_2 rfl, ?_⟩
                      refine callX_sy (T _ (Hp.nil _)) (fun _ _ ⟨_, p, _⟩ => p.fr) alln ?_
                      rintro v10 hv13 ⟨r9, PP, rfl, T⟩
                      have F : Fr _ _ hv13 := F.trans PP.fr.nil
                      have fshv13 := F.size
                      have Y : Sy _ _ hv13 [_, _, _] := Y.gr PP.fr
                      clear PP
                      refine ⟨r9, rfl, ?_⟩
                      refine ⟨F, ?_⟩
                      refine callX_sy (T _ (Hp.nil _)) (fun _ _ ⟨_, p, _⟩ => p.fr) alln ?_
                      rintro v11 hv14 ⟨r10, PP, rfl, T⟩
                      have F : Fr _ _ hv14 := F.trans PP.fr.nil
                      have fshv14 := F.size
                      have Y : Sy _ _ hv14 [_, _, _] := Y.gr PP.fr
                      clear PP
                      refine ⟨r10, rfl, ?_⟩
                      refine ⟨F, ?_⟩
                      refine callX_sy (T _ (Hp.nil _)) (fun _ _ ⟨_, p, _⟩ => p.fr) alln ?_
                      rintro v12 hv15 ⟨r11, PP, rfl, T⟩
                      have F : Fr _ _ hv15 := F.trans PP.fr.nil
                      have fshv15 := F.size
                      have Y : Sy _ _ hv15 [_, _, _] := Y.gr PP.fr
                      clear PP
                      refine ⟨r11, rfl, ?_⟩
                      refine ⟨F, ?_⟩
                      refine cnd_imp T (fun T => ?_) (fun T => ?_)
                      · refine ⟨F, ?_⟩
                        refine ⟨F, ?_⟩
                        exact ⟨_, Y.pick [] rfl, rfl, T⟩
                      · refine ⟨b_2, 0, hb, q, q_2, ?_⟩
                        refine ⟨_, Y0.cellS 2 rfl hb (t := 0) hx rfl, ?_⟩
                        refine ⟨b_3, 0, hb_2, q_3, q_4, ?_⟩
                        refine ⟨_, Y0.cellS 2 rfl hb_2 (t := 0) hx_2 rfl, ?_⟩
                        refine ⟨b_2, 0, hb, q, q_2, ?_⟩
                        refine ⟨_, Y0.cellS 2 rfl hb (t := 0) hx rfl, ?_⟩
                        refine ⟨b_3, 0, hb_2, q_3, q_4, ?_⟩
                        refine ⟨_, Y0.cellS 2 rfl hb_2 (t := 0) hx_2 rfl, ?_⟩
                        refine callX_sy (T _ (Hp.nil _)) (fun _ _ ⟨_, p, _⟩ => p.fr) alln ?_
                        rintro v13 hv16 ⟨r12, PP, rfl, T⟩
                        have F : Fr _ _ hv16 := F.trans PP.fr.nil
                        have fshv16 := F.size
                        have Y : Sy _ _ hv16 [_, _, _] := Y.gr PP.fr
                        clear PP
                        refine ⟨r12, rfl, ?_⟩
                        refine ⟨F, ?_⟩
                        refine callX_sy (T _ (Hp.nil _)) (fun _ _ ⟨_, p, _⟩ => p.fr) alln ?_
                        rintro v14 hv17 ⟨r13, PP, rfl, T⟩
                        have F : Fr _ _ hv17 := F.trans PP.fr.nil
                        have fshv17 := F.size
                        have Y : Sy _ _ hv17 [_, _, _] := Y.gr PP.fr
                        clear PP
                        refine ⟨r13, rfl, ?_⟩
                        refine ⟨F, ?_⟩
                        refine cnd_imp T (fun T => ?_) (fun T => ?_)
                        · exact ⟨_, Y.pick [] rfl, rfl, T⟩
                        · exact loopBack hm_2 ⟨_, rfl, Y.pick [0, 1, 2] rfl, T.1, rfl⟩ T.2
                    · exact hK2 _ ⟨Y.pick [0, 1, 2] rfl, T⟩
                  · exact hK2 _ ⟨Y.pick [0, 1, 2] rfl, T⟩
        · exact hK3 _ ⟨Y.pick [0, 1, 2] rfl, T⟩
      · exact hK3 _ ⟨Y.pick [0, 1, 2] rfl, T⟩
end Go.Proofs.YtfjflbapojgbhaaGreatDoor.N
