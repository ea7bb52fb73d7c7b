/- Functions: what is left to be shown of each, over memory and without: printed by program, tied to the loaded functions by the kernel. Conditions: none. -/
import Derived.Test.YtfjflbapojgbhaaGreatDoorWEnv
import Derived.Test.YtfjflbapojgbhaaGreatDoorYTwo
import Derived.Test.YtfjflbapojgbhaaGreatDoorYGl
namespace Go.Proofs.YtfjflbapojgbhaaGreatDoor.N
open Go.Proofs.YtfjflbapojgbhaaGreatDoor
open Go.X
set_option maxRecDepth 100000
set_option linter.unusedVariables false
set_option linter.unusedSimpArgs false
set_option maxHeartbeats 2000000

/-- math/bits.Len64 -/
def Ok64 (x : Int) (R : Int → Prop) : Prop :=
  ∀ (h : Heap), Hp h [] → CallsH Tryz.prog 64 #[.int .u64 x] h fun v h' => ∃ (rV : Int), Sy h [] h' [] ∧ v = .int .i64 rV ∧ R rV
theorem Ok64.mono {x} {R R' : Int → Prop} (H : Ok64 x R) (kz : ∀ rV, R rV → R' rV) : Ok64 x R' :=
  fun h  hp => (H h  hp).mono fun _ _ ⟨rV, P, e, q⟩ => ⟨rV, P, e, kz _ q⟩
/-- math/bits.Mul64 -/
def Ok124 (x : Int) (y : Int) (R : Int → Int → Prop) : Prop :=
  ∀ (h : Heap), Hp h [] → CallsH Tryz.prog 124 #[.int .u64 x, .int .u64 y] h fun v h' => ∃ (raV : Int) (rbV : Int), Sy h [] h' [] ∧ v = .tuple #[.int .u64 raV, .int .u64 rbV] ∧ R raV rbV
theorem Ok124.mono {x y} {R R' : Int → Int → Prop} (H : Ok124 x y R) (kz : ∀ raV rbV, R raV rbV → R' raV rbV) : Ok124 x y R' :=
  fun h  hp => (H h  hp).mono fun _ _ ⟨raV, rbV, P, e, q⟩ => ⟨raV, rbV, P, e, kz _ _ q⟩
/-- strings.ContainsAny -/
def Ok34 (s : ByteArray) (chars : ByteArray) (R : Bool → Prop) : Prop :=
  ∀ (h : Heap), Hp h [] → CallsH Tryz.prog 34 #[.string s, .string chars] h fun v h' => ∃ (rV : Bool), Sy h [] h' [] ∧ v = .bool rV ∧ R rV
theorem Ok34.mono {s chars} {R R' : Bool → Prop} (H : Ok34 s chars R) (kz : ∀ rV, R rV → R' rV) : Ok34 s chars R' :=
  fun h  hp => (H h  hp).mono fun _ _ ⟨rV, P, e, q⟩ => ⟨rV, P, e, kz _ q⟩
/-- internal/strconv.log10Pow2 -/
def S68 (x : Int) (h : Heap) (R : Value → Heap → Prop) : Prop :=
  0 ≤ (18 : Int) ∧ R (.int .i64 (Int.fdiv (IntKind.i64.wrap (x * (78913 : Int))) (2 ^ (min (Int.toNat (18 : Int)) 64)))) h
theorem calls68 {h : Heap} {R : Value → Heap → Prop} (x : Int) (H : S68 x h R) : CallsH Tryz.prog 68 #[.int .i64 x] h R := by
  have e : S68 x h R = FX (envX [] 6) { loops := [], joins := [], blocks := [], draws := [] } Tryz.f68 (Tryz.f68.body.getD .skip) [.int .i64 x] h R := by kernel_rfl
  exact calls_of_FX (envX_ok _ _) Tryz.func68 (by kernel_rfl) (by kernel_rfl) (by kernel_rfl) (e ▸ H)
/-- internal/strconv.log10Pow2 -/
def Ok68 (x : Int) (R : Int → Prop) : Prop :=
  ∀ (h : Heap), Hp h [] → CallsH Tryz.prog 68 #[.int .i64 x] h fun v h' => ∃ (rV : Int), Sy h [] h' [] ∧ v = .int .i64 rV ∧ R rV
theorem Ok68.mono {x} {R R' : Int → Prop} (H : Ok68 x R) (kz : ∀ rV, R rV → R' rV) : Ok68 x R' :=
  fun h  hp => (H h  hp).mono fun _ _ ⟨rV, P, e, q⟩ => ⟨rV, P, e, kz _ q⟩
def T68 (x : Int) (R : Int → Prop) : Prop :=
  0 ≤ (18 : Int) ∧ R (Int.fdiv (IntKind.i64.wrap (x * (78913 : Int))) (2 ^ (min (Int.toNat (18 : Int)) 64)))
theorem ok68 {x} {R : Int → Prop} (T : T68 x R) : Ok68 x R := by
  intro h  H
  have Y : Sy h [] h _ := Sy.startM H rfl
  apply calls68
  unfold S68
  unfold T68 at T
  obtain ⟨q, T⟩ := T
  refine ⟨q, ?_⟩
  exact ⟨_, Y.pick [] rfl, rfl, T⟩
/-- internal/strconv.log2Pow10 -/
def S97 (x : Int) (h : Heap) (R : Value → Heap → Prop) : Prop :=
  0 ≤ (15 : Int) ∧ R (.int .i64 (Int.fdiv (IntKind.i64.wrap (x * (108853 : Int))) (2 ^ (min (Int.toNat (15 : Int)) 64)))) h
theorem calls97 {h : Heap} {R : Value → Heap → Prop} (x : Int) (H : S97 x h R) : CallsH Tryz.prog 97 #[.int .i64 x] h R := by
  have e : S97 x h R = FX (envX [] 6) { loops := [], joins := [], blocks := [], draws := [] } Tryz.f97 (Tryz.f97.body.getD .skip) [.int .i64 x] h R := by kernel_rfl
  exact calls_of_FX (envX_ok _ _) Tryz.func97 (by kernel_rfl) (by kernel_rfl) (by kernel_rfl) (e ▸ H)
/-- internal/strconv.log2Pow10 -/
def Ok97 (x : Int) (R : Int → Prop) : Prop :=
  ∀ (h : Heap), Hp h [] → CallsH Tryz.prog 97 #[.int .i64 x] h fun v h' => ∃ (rV : Int), Sy h [] h' [] ∧ v = .int .i64 rV ∧ R rV
theorem Ok97.mono {x} {R R' : Int → Prop} (H : Ok97 x R) (kz : ∀ rV, R rV → R' rV) : Ok97 x R' :=
  fun h  hp => (H h  hp).mono fun _ _ ⟨rV, P, e, q⟩ => ⟨rV, P, e, kz _ q⟩
def T97 (x : Int) (R : Int → Prop) : Prop :=
  0 ≤ (15 : Int) ∧ R (Int.fdiv (IntKind.i64.wrap (x * (108853 : Int))) (2 ^ (min (Int.toNat (15 : Int)) 64)))
theorem ok97 {x} {R : Int → Prop} (T : T97 x R) : Ok97 x R := by
  intro h  H
  have Y : Sy h [] h _ := Sy.startM H rfl
  apply calls97
  unfold S97
  unfold T97 at T
  obtain ⟨q, T⟩ := T
  refine ⟨q, ?_⟩
  exact ⟨_, Y.pick [] rfl, rfl, T⟩
/-- internal/strconv.skewed -/
def S95 (ev : Int) (h : Heap) (R : Value → Heap → Prop) : Prop :=
  0 ≤ (21 : Int) ∧ R (.int .i64 (Int.fdiv (IntKind.i64.wrap ((IntKind.i64.wrap (ev * (631305 : Int))) - (261663 : Int))) (2 ^ (min (Int.toNat (21 : Int)) 64)))) h
theorem calls95 {h : Heap} {R : Value → Heap → Prop} (ev : Int) (H : S95 ev h R) : CallsH Tryz.prog 95 #[.int .i64 ev] h R := by
  have e : S95 ev h R = FX (envX [] 7) { loops := [], joins := [], blocks := [], draws := [] } Tryz.f95 (Tryz.f95.body.getD .skip) [.int .i64 ev] h R := by kernel_rfl
  exact calls_of_FX (envX_ok _ _) Tryz.func95 (by kernel_rfl) (by kernel_rfl) (by kernel_rfl) (e ▸ H)
/-- internal/strconv.skewed -/
def Ok95 (ev : Int) (R : Int → Prop) : Prop :=
  ∀ (h : Heap), Hp h [] → CallsH Tryz.prog 95 #[.int .i64 ev] h fun v h' => ∃ (rV : Int), Sy h [] h' [] ∧ v = .int .i64 rV ∧ R rV
theorem Ok95.mono {ev} {R R' : Int → Prop} (H : Ok95 ev R) (kz : ∀ rV, R rV → R' rV) : Ok95 ev R' :=
  fun h  hp => (H h  hp).mono fun _ _ ⟨rV, P, e, q⟩ => ⟨rV, P, e, kz _ q⟩
def T95 (ev : Int) (R : Int → Prop) : Prop :=
  0 ≤ (21 : Int) ∧ R (Int.fdiv (IntKind.i64.wrap ((IntKind.i64.wrap (ev * (631305 : Int))) - (261663 : Int))) (2 ^ (min (Int.toNat (21 : Int)) 64)))
theorem ok95 {ev} {R : Int → Prop} (T : T95 ev R) : Ok95 ev R := by
  intro h  H
  have Y : Sy h [] h _ := Sy.startM H rfl
  apply calls95
  unfold S95
  unfold T95 at T
  obtain ⟨q, T⟩ := T
  refine ⟨q, ?_⟩
  exact ⟨_, Y.pick [] rfl, rfl, T⟩
/-- internal/strconv.bool2[int] -/
def S104 (b : Bool) (h : Heap) (R : Value → Heap → Prop) : Prop :=
  cnd b
   (R (.int .i64 1) h)
   (R (.int .i64 0) h)
theorem calls104 {h : Heap} {R : Value → Heap → Prop} (b : Bool) (H : S104 b h R) : CallsH Tryz.prog 104 #[.bool b] h R := by
  have e : S104 b h R = FX (envX [] 4) { loops := [], joins := [], blocks := [], draws := [] } Tryz.f104 (Tryz.f104.body.getD .skip) [.bool b] h R := by kernel_rfl
  exact calls_of_FX (envX_ok _ _) Tryz.func104 (by kernel_rfl) (by kernel_rfl) (by kernel_rfl) (e ▸ H)
/-- internal/strconv.bool2[int] -/
def Ok104 (b : Bool) (R : Int → Prop) : Prop :=
  ∀ (h : Heap), Hp h [] → CallsH Tryz.prog 104 #[.bool b] h fun v h' => ∃ (rV : Int), Sy h [] h' [] ∧ v = .int .i64 rV ∧ R rV
theorem Ok104.mono {b} {R R' : Int → Prop} (H : Ok104 b R) (kz : ∀ rV, R rV → R' rV) : Ok104 b R' :=
  fun h  hp => (H h  hp).mono fun _ _ ⟨rV, P, e, q⟩ => ⟨rV, P, e, kz _ q⟩
def T104 (b : Bool) (R : Int → Prop) : Prop :=
  cnd b
   (R 1)
   (R 0)
theorem ok104 {b} {R : Int → Prop} (T : T104 b R) : Ok104 b R := by
  intro h  H
  have Y : Sy h [] h _ := Sy.startM H rfl
  apply calls104
  unfold S104
  unfold T104 at T
  refine cnd_imp T (fun T => ?_) (fun T => ?_)
  · exact ⟨_, Y.pick [] rfl, rfl, T⟩
  · exact ⟨_, Y.pick [] rfl, rfl, T⟩
/-- internal/strconv.numDigits -/
def S67 (d : Int) (h : Heap) (R : Value → Heap → Prop) : Prop :=
  callX Tryz.prog 64 #[.int .u64 d] h [] fun v hv =>
  ∃ r : Int, v = .int .i64 r ∧
  callX Tryz.prog 68 #[.int .i64 r] hv [] fun v2 hv2 =>
  ∃ r2 : Int, v2 = .int .i64 r2 ∧
  0 ≤ r2 ∧ r2 < ((20 : Nat) : Int) ∧ ∃ x : Int, hcell hv2 6 (0 + (Int.toNat r2) * 1) = some (.int .u64 x) ∧ callX Tryz.prog 104 #[.bool (decide (d ≥ x))] hv2 [] fun v3 hv3 =>
  ∃ r3 : Int, v3 = .int .i64 r3 ∧
  R (.int .i64 (IntKind.i64.wrap (r2 + r3))) hv3
theorem calls67 {h : Heap} {R : Value → Heap → Prop} (d : Int) (H : S67 d h R) : CallsH Tryz.prog 67 #[.int .u64 d] h R := by
  have e : S67 d h R = FX (envX [] 15) { loops := [], joins := [], blocks := [], draws := [] } Tryz.f67 (Tryz.f67.body.getD .skip) [.int .u64 d] h R := by kernel_rfl
  exact calls_of_FX (envX_ok _ _) Tryz.func67 (by kernel_rfl) (by kernel_rfl) (by kernel_rfl) (e ▸ H)
/-- internal/strconv.numDigits -/
def Ok67 (d : Int) (R : Int → Prop) : Prop :=
  ∀ (h : Heap) (gl : GL), Hp h [Ck.glob gl] → CallsH Tryz.prog 67 #[.int .u64 d] h fun v h' => ∃ (rV : Int), Sy h [] h' [] ∧ v = .int .i64 rV ∧ R rV
theorem Ok67.mono {d} {R R' : Int → Prop} (H : Ok67 d R) (kz : ∀ rV, R rV → R' rV) : Ok67 d R' :=
  fun h gl hp => (H h gl hp).mono fun _ _ ⟨rV, P, e, q⟩ => ⟨rV, P, e, kz _ q⟩
def T67 (d : Int) (R : Int → Prop) : Prop :=
  Ok64 d (fun r =>
  Ok68 r (fun r2 =>
  0 ≤ r2 ∧ r2 < ((20 : Nat) : Int) ∧ ∃ x_2 : Int, tU[(Int.toNat r2) * 1]? = some x_2 ∧ Ok104 (decide (d ≥ x_2)) (fun r3 =>
  R (IntKind.i64.wrap (r2 + r3)))))
theorem ok67 {d} {R : Int → Prop} (T : T67 d R) : Ok67 d R := by
  intro h gl H
  have Y : Sy h [] h _ := Sy.startM H rfl
  apply calls67
  unfold S67
  unfold T67 at T
  refine callX_sy (T _ (Hp.nil _)) (fun _ _ ⟨_, p, _⟩ => p.fr) alln ?_
  rintro v hv ⟨r, PP, rfl, T⟩
  have Y : Sy _ _ hv [_] := Y.gr PP.fr
  clear PP
  refine ⟨r, rfl, ?_⟩
  refine callX_sy (T _ (Hp.nil _)) (fun _ _ ⟨_, p, _⟩ => p.fr) alln ?_
  rintro v2 hv2 ⟨r2, PP, rfl, T⟩
  have Y : Sy _ _ hv2 [_] := Y.gr PP.fr
  clear PP
  refine ⟨r2, rfl, ?_⟩
  obtain ⟨q, q_2, T⟩ := T
  refine ⟨q, q_2, ?_⟩
  obtain ⟨x_2, hx, T⟩ := T
  refine ⟨_, (Y.glo 0 rfl).u _ _ hx, ?_⟩
  refine callX_sy (T _ (Hp.nil _)) (fun _ _ ⟨_, p, _⟩ => p.fr) alln ?_
  rintro v3 hv3 ⟨r3, PP, rfl, T⟩
  have Y : Sy _ _ hv3 [_] := Y.gr PP.fr
  clear PP
  refine ⟨r3, rfl, ?_⟩
  exact ⟨_, Y.pick [] rfl, rfl, T⟩
/-- internal/strconv.bool2[uint64] -/
def S87 (b : Bool) (h : Heap) (R : Value → Heap → Prop) : Prop :=
  cnd b
   (R (.int .u64 1) h)
   (R (.int .u64 0) h)
theorem calls87 {h : Heap} {R : Value → Heap → Prop} (b : Bool) (H : S87 b h R) : CallsH Tryz.prog 87 #[.bool b] h R := by
  have e : S87 b h R = FX (envX [] 4) { loops := [], joins := [], blocks := [], draws := [] } Tryz.f87 (Tryz.f87.body.getD .skip) [.bool b] h R := by kernel_rfl
  exact calls_of_FX (envX_ok _ _) Tryz.func87 (by kernel_rfl) (by kernel_rfl) (by kernel_rfl) (e ▸ H)
/-- internal/strconv.bool2[uint64] -/
def Ok87 (b : Bool) (R : Int → Prop) : Prop :=
  ∀ (h : Heap), Hp h [] → CallsH Tryz.prog 87 #[.bool b] h fun v h' => ∃ (rV : Int), Sy h [] h' [] ∧ v = .int .u64 rV ∧ R rV
theorem Ok87.mono {b} {R R' : Int → Prop} (H : Ok87 b R) (kz : ∀ rV, R rV → R' rV) : Ok87 b R' :=
  fun h  hp => (H h  hp).mono fun _ _ ⟨rV, P, e, q⟩ => ⟨rV, P, e, kz _ q⟩
def T87 (b : Bool) (R : Int → Prop) : Prop :=
  cnd b
   (R 1)
   (R 0)
theorem ok87 {b} {R : Int → Prop} (T : T87 b R) : Ok87 b R := by
  intro h  H
  have Y : Sy h [] h _ := Sy.startM H rfl
  apply calls87
  unfold S87
  unfold T87 at T
  refine cnd_imp T (fun T => ?_) (fun T => ?_)
  · exact ⟨_, Y.pick [] rfl, rfl, T⟩
  · exact ⟨_, Y.pick [] rfl, rfl, T⟩
/-- internal/strconv.unmin -/
def S105 (x : Int) (h : Heap) (R : Value → Heap → Prop) : Prop :=
  0 ≤ (2 : Int) ∧ R (.int .u64 (IntKind.u64.wrap ((IntKind.u64.wrap (x * 2 ^ (min (Int.toNat (2 : Int)) 64))) - (2 : Int)))) h
theorem calls105 {h : Heap} {R : Value → Heap → Prop} (x : Int) (H : S105 x h R) : CallsH Tryz.prog 105 #[.int .u64 x] h R := by
  have e : S105 x h R = FX (envX [] 6) { loops := [], joins := [], blocks := [], draws := [] } Tryz.f105 (Tryz.f105.body.getD .skip) [.int .u64 x] h R := by kernel_rfl
  exact calls_of_FX (envX_ok _ _) Tryz.func105 (by kernel_rfl) (by kernel_rfl) (by kernel_rfl) (e ▸ H)
/-- internal/strconv.unmin -/
def Ok105 (x : Int) (R : Int → Prop) : Prop :=
  ∀ (h : Heap), Hp h [] → CallsH Tryz.prog 105 #[.int .u64 x] h fun v h' => ∃ (rV : Int), Sy h [] h' [] ∧ v = .int .u64 rV ∧ R rV
theorem Ok105.mono {x} {R R' : Int → Prop} (H : Ok105 x R) (kz : ∀ rV, R rV → R' rV) : Ok105 x R' :=
  fun h  hp => (H h  hp).mono fun _ _ ⟨rV, P, e, q⟩ => ⟨rV, P, e, kz _ q⟩
def T105 (x : Int) (R : Int → Prop) : Prop :=
  0 ≤ (2 : Int) ∧ R (IntKind.u64.wrap ((IntKind.u64.wrap (x * 2 ^ (min (Int.toNat (2 : Int)) 64))) - (2 : Int)))
theorem ok105 {x} {R : Int → Prop} (T : T105 x R) : Ok105 x R := by
  intro h  H
  have Y : Sy h [] h _ := Sy.startM H rfl
  apply calls105
  unfold S105
  unfold T105 at T
  obtain ⟨q, T⟩ := T
  refine ⟨q, ?_⟩
  exact ⟨_, Y.pick [] rfl, rfl, T⟩
/-- (internal/strconv.unrounded).nudge -/
def S99 (u : Int) (x : Int) (h : Heap) (R : Value → Heap → Prop) : Prop :=
  R (.int .u64 (IntKind.u64.wrap (u + (IntKind.u64.wrap x)))) h
theorem calls99 {h : Heap} {R : Value → Heap → Prop} (u : Int) (x : Int) (H : S99 u x h R) : CallsH Tryz.prog 99 #[.int .u64 u, .int .i64 x] h R := by
  have e : S99 u x h R = FX (envX [] 9) { loops := [], joins := [], blocks := [], draws := [] } Tryz.f99 (Tryz.f99.body.getD .skip) [.int .u64 u, .int .i64 x] h R := by kernel_rfl
  exact calls_of_FX (envX_ok _ _) Tryz.func99 (by kernel_rfl) (by kernel_rfl) (by kernel_rfl) (e ▸ H)
/-- (internal/strconv.unrounded).nudge -/
def Ok99 (u : Int) (x : Int) (R : Int → Prop) : Prop :=
  ∀ (h : Heap), Hp h [] → CallsH Tryz.prog 99 #[.int .u64 u, .int .i64 x] h fun v h' => ∃ (rV : Int), Sy h [] h' [] ∧ v = .int .u64 rV ∧ R rV
theorem Ok99.mono {u x} {R R' : Int → Prop} (H : Ok99 u x R) (kz : ∀ rV, R rV → R' rV) : Ok99 u x R' :=
  fun h  hp => (H h  hp).mono fun _ _ ⟨rV, P, e, q⟩ => ⟨rV, P, e, kz _ q⟩
def T99 (u : Int) (x : Int) (R : Int → Prop) : Prop :=
  R (IntKind.u64.wrap (u + (IntKind.u64.wrap x)))
theorem ok99 {u x} {R : Int → Prop} (T : T99 u x R) : Ok99 u x R := by
  intro h  H
  have Y : Sy h [] h _ := Sy.startM H rfl
  apply calls99
  unfold S99
  unfold T99 at T
  exact ⟨_, Y.pick [] rfl, rfl, T⟩
/-- (internal/strconv.unrounded).ceil -/
def S100 (u : Int) (h : Heap) (R : Value → Heap → Prop) : Prop :=
  0 ≤ (2 : Int) ∧ R (.int .u64 (Int.fdiv (IntKind.u64.wrap (u + (3 : Int))) (2 ^ (min (Int.toNat (2 : Int)) 64)))) h
theorem calls100 {h : Heap} {R : Value → Heap → Prop} (u : Int) (H : S100 u h R) : CallsH Tryz.prog 100 #[.int .u64 u] h R := by
  have e : S100 u h R = FX (envX [] 6) { loops := [], joins := [], blocks := [], draws := [] } Tryz.f100 (Tryz.f100.body.getD .skip) [.int .u64 u] h R := by kernel_rfl
  exact calls_of_FX (envX_ok _ _) Tryz.func100 (by kernel_rfl) (by kernel_rfl) (by kernel_rfl) (e ▸ H)
/-- (internal/strconv.unrounded).ceil -/
def Ok100 (u : Int) (R : Int → Prop) : Prop :=
  ∀ (h : Heap), Hp h [] → CallsH Tryz.prog 100 #[.int .u64 u] h fun v h' => ∃ (rV : Int), Sy h [] h' [] ∧ v = .int .u64 rV ∧ R rV
theorem Ok100.mono {u} {R R' : Int → Prop} (H : Ok100 u R) (kz : ∀ rV, R rV → R' rV) : Ok100 u R' :=
  fun h  hp => (H h  hp).mono fun _ _ ⟨rV, P, e, q⟩ => ⟨rV, P, e, kz _ q⟩
def T100 (u : Int) (R : Int → Prop) : Prop :=
  0 ≤ (2 : Int) ∧ R (Int.fdiv (IntKind.u64.wrap (u + (3 : Int))) (2 ^ (min (Int.toNat (2 : Int)) 64)))
theorem ok100 {u} {R : Int → Prop} (T : T100 u R) : Ok100 u R := by
  intro h  H
  have Y : Sy h [] h _ := Sy.startM H rfl
  apply calls100
  unfold S100
  unfold T100 at T
  obtain ⟨q, T⟩ := T
  refine ⟨q, ?_⟩
  exact ⟨_, Y.pick [] rfl, rfl, T⟩
/-- (internal/strconv.unrounded).floor -/
def S101 (u : Int) (h : Heap) (R : Value → Heap → Prop) : Prop :=
  0 ≤ (2 : Int) ∧ R (.int .u64 (Int.fdiv (IntKind.u64.wrap (u + (0 : Int))) (2 ^ (min (Int.toNat (2 : Int)) 64)))) h
theorem calls101 {h : Heap} {R : Value → Heap → Prop} (u : Int) (H : S101 u h R) : CallsH Tryz.prog 101 #[.int .u64 u] h R := by
  have e : S101 u h R = FX (envX [] 6) { loops := [], joins := [], blocks := [], draws := [] } Tryz.f101 (Tryz.f101.body.getD .skip) [.int .u64 u] h R := by kernel_rfl
  exact calls_of_FX (envX_ok _ _) Tryz.func101 (by kernel_rfl) (by kernel_rfl) (by kernel_rfl) (e ▸ H)
/-- (internal/strconv.unrounded).floor -/
def Ok101 (u : Int) (R : Int → Prop) : Prop :=
  ∀ (h : Heap), Hp h [] → CallsH Tryz.prog 101 #[.int .u64 u] h fun v h' => ∃ (rV : Int), Sy h [] h' [] ∧ v = .int .u64 rV ∧ R rV
theorem Ok101.mono {u} {R R' : Int → Prop} (H : Ok101 u R) (kz : ∀ rV, R rV → R' rV) : Ok101 u R' :=
  fun h  hp => (H h  hp).mono fun _ _ ⟨rV, P, e, q⟩ => ⟨rV, P, e, kz _ q⟩
def T101 (u : Int) (R : Int → Prop) : Prop :=
  0 ≤ (2 : Int) ∧ R (Int.fdiv (IntKind.u64.wrap (u + (0 : Int))) (2 ^ (min (Int.toNat (2 : Int)) 64)))
theorem ok101 {u} {R : Int → Prop} (T : T101 u R) : Ok101 u R := by
  intro h  H
  have Y : Sy h [] h _ := Sy.startM H rfl
  apply calls101
  unfold S101
  unfold T101 at T
  obtain ⟨q, T⟩ := T
  refine ⟨q, ?_⟩
  exact ⟨_, Y.pick [] rfl, rfl, T⟩
/-- (internal/strconv.unrounded).round -/
def S102 (u : Int) (h : Heap) (R : Value → Heap → Prop) : Prop :=
  0 ≤ (2 : Int) ∧ 0 ≤ (2 : Int) ∧ R (.int .u64 (Int.fdiv (IntKind.u64.wrap ((IntKind.u64.wrap (u + (1 : Int))) + (bits .and .u64 (Int.fdiv u (2 ^ (min (Int.toNat (2 : Int)) 64))) (1 : Int)))) (2 ^ (min (Int.toNat (2 : Int)) 64)))) h
theorem calls102 {h : Heap} {R : Value → Heap → Prop} (u : Int) (H : S102 u h R) : CallsH Tryz.prog 102 #[.int .u64 u] h R := by
  have e : S102 u h R = FX (envX [] 10) { loops := [], joins := [], blocks := [], draws := [] } Tryz.f102 (Tryz.f102.body.getD .skip) [.int .u64 u] h R := by kernel_rfl
  exact calls_of_FX (envX_ok _ _) Tryz.func102 (by kernel_rfl) (by kernel_rfl) (by kernel_rfl) (e ▸ H)
/-- (internal/strconv.unrounded).round -/
def Ok102 (u : Int) (R : Int → Prop) : Prop :=
  ∀ (h : Heap), Hp h [] → CallsH Tryz.prog 102 #[.int .u64 u] h fun v h' => ∃ (rV : Int), Sy h [] h' [] ∧ v = .int .u64 rV ∧ R rV
theorem Ok102.mono {u} {R R' : Int → Prop} (H : Ok102 u R) (kz : ∀ rV, R rV → R' rV) : Ok102 u R' :=
  fun h  hp => (H h  hp).mono fun _ _ ⟨rV, P, e, q⟩ => ⟨rV, P, e, kz _ q⟩
def T102 (u : Int) (R : Int → Prop) : Prop :=
  0 ≤ (2 : Int) ∧ 0 ≤ (2 : Int) ∧ R (Int.fdiv (IntKind.u64.wrap ((IntKind.u64.wrap (u + (1 : Int))) + (bits .and .u64 (Int.fdiv u (2 ^ (min (Int.toNat (2 : Int)) 64))) (1 : Int)))) (2 ^ (min (Int.toNat (2 : Int)) 64)))
theorem ok102 {u} {R : Int → Prop} (T : T102 u R) : Ok102 u R := by
  intro h  H
  have Y : Sy h [] h _ := Sy.startM H rfl
  apply calls102
  unfold S102
  unfold T102 at T
  obtain ⟨q_2, T⟩ := T
  refine ⟨q_2, ?_⟩
  obtain ⟨q, T⟩ := T
  refine ⟨q, ?_⟩
  exact ⟨_, Y.pick [] rfl, rfl, T⟩
/-- internal/strconv.prescale -/
def S96 (preP : Option Addr) (ev : Int) (p : Int) (lp : Int) (h : Heap) (R : Value → Heap → Prop) : Prop :=
  0 ≤ (IntKind.i64.wrap (p - ((-348) : Int))) ∧ (IntKind.i64.wrap (p - ((-348) : Int))) < ((696 : Nat) : Int) ∧ ∃ x : Int, hcell h 11 (0 + (Int.toNat (IntKind.i64.wrap (p - ((-348) : Int)))) * 2) = some (.int .u64 x) ∧ ∃ b o, preP = some ⟨b, o, none⟩ ∧ (∃ u, hcell h b o = some u) ∧ hfree h b o = true ∧ let hv : Heap := hset h b o (.int .u64 x)
  0 ≤ (IntKind.i64.wrap (p - ((-348) : Int))) ∧ (IntKind.i64.wrap (p - ((-348) : Int))) < ((696 : Nat) : Int) ∧ ∃ x2 : Int, hcell hv 11 ((0 + (Int.toNat (IntKind.i64.wrap (p - ((-348) : Int)))) * 2) + 1) = some (.int .u64 x2) ∧ ∃ b2 o2, preP = some ⟨b2, o2, none⟩ ∧ (∃ u, hcell hv b2 (o2 + 1) = some u) ∧ hfree hv b2 (o2 + 1) = true ∧ let hv2 : Heap := hset hv b2 (o2 + 1) (.int .u64 x2)
  ∃ b3 o3, preP = some ⟨b3, o3, none⟩ ∧ (∃ u, hcell hv2 b3 (o3 + 2) = some u) ∧ hfree hv2 b3 (o3 + 2) = true ∧ let hv3 : Heap := hset hv2 b3 (o3 + 2) (.int .i64 (IntKind.i64.wrap (0 - (IntKind.i64.wrap ((IntKind.i64.wrap (ev + lp)) + (3 : Int))))))
  R (.tuple #[]) hv3
theorem calls96 {h : Heap} {R : Value → Heap → Prop} (preP : Option Addr) (ev : Int) (p : Int) (lp : Int) (H : S96 preP ev p lp h R) : CallsH Tryz.prog 96 #[.pointer preP, .int .i64 ev, .int .i64 p, .int .i64 lp] h R := by
  have e : S96 preP ev p lp h R = FX (envX [] 32) { loops := [], joins := [], blocks := [], draws := [] } Tryz.f96 (Tryz.f96.body.getD .skip) [.pointer preP, .int .i64 ev, .int .i64 p, .int .i64 lp] h R := by kernel_rfl
  exact calls_of_FX (envX_ok _ _) Tryz.func96 (by kernel_rfl) (by kernel_rfl) (by kernel_rfl) (e ▸ H)
/-- internal/strconv.prescale -/
def Ok96 (pmHiV : Int) (pmLoV : Int) (sV : Int) (ev : Int) (p : Int) (lp : Int) (R : Int → Int → Int → Prop) : Prop :=
  ∀ (h : Heap) (gl : GL) (preB : Nat), Hp h [Ck.glob gl, Ck.ob preB 136 [.int .u64 pmHiV, .int .u64 pmLoV, .int .i64 sV]] → CallsH Tryz.prog 96 #[.pointer (some ⟨preB, 0, none⟩), .int .i64 ev, .int .i64 p, .int .i64 lp] h fun v h' => ∃ (pmHiV2 : Int) (pmLoV2 : Int) (sV2 : Int), Sy h (owns [Ck.ob preB 136 [.int .u64 pmHiV, .int .u64 pmLoV, .int .i64 sV]]) h' [Ck.ob preB 136 [.int .u64 pmHiV2, .int .u64 pmLoV2, .int .i64 sV2]] ∧ v = .tuple #[] ∧ R pmHiV2 pmLoV2 sV2
theorem Ok96.mono {pmHiV pmLoV sV ev p lp} {R R' : Int → Int → Int → Prop} (H : Ok96 pmHiV pmLoV sV ev p lp R) (kz : ∀ pmHiV2 pmLoV2 sV2, R pmHiV2 pmLoV2 sV2 → R' pmHiV2 pmLoV2 sV2) : Ok96 pmHiV pmLoV sV ev p lp R' :=
  fun h gl preB hp => (H h gl preB hp).mono fun _ _ ⟨pmHiV2, pmLoV2, sV2, P, e, q⟩ => ⟨pmHiV2, pmLoV2, sV2, P, e, kz _ _ _ q⟩
def T96 (pmHiV : Int) (pmLoV : Int) (sV : Int) (ev : Int) (p : Int) (lp : Int) (R : Int → Int → Int → Prop) : Prop :=
  0 ≤ (IntKind.i64.wrap (p - ((-348) : Int))) ∧ (IntKind.i64.wrap (p - ((-348) : Int))) < ((696 : Nat) : Int) ∧ ∃ x_2 : Int, tT[(Int.toNat (IntKind.i64.wrap (p - ((-348) : Int)))) * 2]? = some x_2 ∧ 0 ≤ (IntKind.i64.wrap (p - ((-348) : Int))) ∧ (IntKind.i64.wrap (p - ((-348) : Int))) < ((696 : Nat) : Int) ∧ ∃ x_3 : Int, tT[(Int.toNat (IntKind.i64.wrap (p - ((-348) : Int)))) * 2 + 1]? = some x_3 ∧ R x_2 x_3 (IntKind.i64.wrap (0 - (IntKind.i64.wrap ((IntKind.i64.wrap (ev + lp)) + (3 : Int)))))
theorem ok96 {pmHiV pmLoV sV ev p lp} {R : Int → Int → Int → Prop} (T : T96 pmHiV pmLoV sV ev p lp R) : Ok96 pmHiV pmLoV sV ev p lp R := by
  intro h gl preB H
  have Y : Sy h (owns [Ck.ob preB 136 [.int .u64 pmHiV, .int .u64 pmLoV, .int .i64 sV]]) h _ := Sy.startM H rfl
  apply calls96
  unfold S96
  unfold T96 at T
  obtain ⟨q_3, q_4, T⟩ := T
  refine ⟨q_3, q_4, ?_⟩
  obtain ⟨x_2, hx, T⟩ := T
  refine ⟨_, (Y.glo 0 rfl).t _ _ hx, ?_⟩
  refine ⟨preB, 0, rfl, ?_⟩
  refine ⟨⟨_, Y.cellO 1 rfl 0 rfl⟩, Y.freeO 1 rfl _, ?_⟩
  intro hv
  have Y : Sy _ _ hv [_, _] := (Y.stO 1 rfl 0 _)
  clear_value hv
  obtain ⟨q, q_2, T⟩ := T
  refine ⟨q, q_2, ?_⟩
  obtain ⟨x_3, hx_2, T⟩ := T
  refine ⟨_, (Y.glo 0 rfl).t _ _ hx_2, ?_⟩
  refine ⟨preB, 0, rfl, ?_⟩
  refine ⟨⟨_, Y.cellO 1 rfl 1 rfl⟩, Y.freeO 1 rfl _, ?_⟩
  intro hv2
  have Y : Sy _ _ hv2 [_, _] := (Y.stO 1 rfl 1 _)
  clear_value hv2
  refine ⟨preB, 0, rfl, ?_⟩
  refine ⟨⟨_, Y.cellO 1 rfl 2 rfl⟩, Y.freeO 1 rfl _, ?_⟩
  intro hv3
  have Y : Sy _ _ hv3 [_, _] := (Y.stO 1 rfl 2 _)
  clear_value hv3
  exact ⟨_, _, _, Y.pick [1] rfl, rfl, T⟩
/-- internal/strconv.uscale -/
def S98 (x : Int) (cP : Option Addr) (h : Heap) (R : Value → Heap → Prop) : Prop :=
  ∃ b o, cP = some ⟨b, o, none⟩ ∧ ∃ x2 : Int, hcell h b o = some (.int .u64 x2) ∧ callX Tryz.prog 124 #[.int .u64 x, .int .u64 x2] h [] fun v hv =>
  ∃ ra : Int, ∃ rb : Int, v = .tuple #[.int .u64 ra, .int .u64 rb] ∧
  ∃ b2 o2, cP = some ⟨b2, o2, none⟩ ∧ ∃ x3 : Int, hcell hv b2 (o2 + 2) = some (.int .i64 x3) ∧ 0 ≤ (bits .and .i64 x3 (63 : Int)) ∧ 0 ≤ (bits .and .i64 x3 (63 : Int)) ∧ cnd ((IntKind.u64.wrap ((Int.fdiv ra (2 ^ (min (Int.toNat (bits .and .i64 x3 (63 : Int))) 64))) * 2 ^ (min (Int.toNat (bits .and .i64 x3 (63 : Int))) 64))) != ra)
   (0 ≤ (bits .and .i64 x3 (63 : Int)) ∧ R (.int .u64 (bits .or .u64 (Int.fdiv ra (2 ^ (min (Int.toNat (bits .and .i64 x3 (63 : Int))) 64))) (1 : Int))) hv)
   (∃ b3 o3, cP = some ⟨b3, o3, none⟩ ∧ ∃ x4 : Int, hcell hv b3 (o3 + 1) = some (.int .u64 x4) ∧ callX Tryz.prog 124 #[.int .u64 x, .int .u64 x4] hv [] fun v2 hv2 =>
   ∃ ra2 : Int, ∃ rb2 : Int, v2 = .tuple #[.int .u64 ra2, .int .u64 rb2] ∧
   callX Tryz.prog 87 #[.bool (decide (rb < ra2))] hv2 [] fun v3 hv3 =>
   ∃ r : Int, v3 = .int .u64 r ∧
   0 ≤ (bits .and .i64 x3 (63 : Int)) ∧ callX Tryz.prog 87 #[.bool (decide ((IntKind.u64.wrap (rb - ra2)) > (1 : Int)))] hv3 [] fun v4 hv4 =>
   ∃ r2 : Int, v4 = .int .u64 r2 ∧
   Fr [] hv3 hv4 ∧
   R (.int .u64 (bits .or .u64 (Int.fdiv (IntKind.u64.wrap (ra - r)) (2 ^ (min (Int.toNat (bits .and .i64 x3 (63 : Int))) 64))) r2)) hv4)
theorem calls98 {h : Heap} {R : Value → Heap → Prop} (x : Int) (cP : Option Addr) (H : S98 x cP h R) : CallsH Tryz.prog 98 #[.int .u64 x, .pointer cP] h R := by
  have e : S98 x cP h R = FX (envX [] 59) { loops := [], joins := [], blocks := [], draws := [(7, ⟨10, false⟩)] } Tryz.f98 (Tryz.f98.body.getD .skip) [.int .u64 x, .pointer cP] h R := by kernel_rfl
  exact calls_of_FX (envX_ok _ _) Tryz.func98 (by kernel_rfl) (by kernel_rfl) (by kernel_rfl) (e ▸ H)
/-- internal/strconv.uscale -/
def Ok98 (x : Int) (pmHiV : Int) (pmLoV : Int) (sV : Int) (R : Int → Prop) : Prop :=
  ∀ (h : Heap) (cB cO : Nat), Hp h [Ck.vob cB cO [.int .u64 pmHiV, .int .u64 pmLoV, .int .i64 sV]] → CallsH Tryz.prog 98 #[.int .u64 x, .pointer (some ⟨cB, cO, none⟩)] h fun v h' => ∃ (rV : Int), Sy h [] h' [] ∧ v = .int .u64 rV ∧ R rV
theorem Ok98.mono {x pmHiV pmLoV sV} {R R' : Int → Prop} (H : Ok98 x pmHiV pmLoV sV R) (kz : ∀ rV, R rV → R' rV) : Ok98 x pmHiV pmLoV sV R' :=
  fun h cB cO hp => (H h cB cO hp).mono fun _ _ ⟨rV, P, e, q⟩ => ⟨rV, P, e, kz _ q⟩
def T98 (x : Int) (pmHiV : Int) (pmLoV : Int) (sV : Int) (R : Int → Prop) : Prop :=
  Ok124 x pmHiV (fun ra rb =>
  0 ≤ (bits .and .i64 sV (63 : Int)) ∧ 0 ≤ (bits .and .i64 sV (63 : Int)) ∧ cnd ((IntKind.u64.wrap ((Int.fdiv ra (2 ^ (min (Int.toNat (bits .and .i64 sV (63 : Int))) 64))) * 2 ^ (min (Int.toNat (bits .and .i64 sV (63 : Int))) 64))) != ra)
   (0 ≤ (bits .and .i64 sV (63 : Int)) ∧ R (bits .or .u64 (Int.fdiv ra (2 ^ (min (Int.toNat (bits .and .i64 sV (63 : Int))) 64))) (1 : Int)))
   (Ok124 x pmLoV (fun ra2 rb2 =>
   Ok87 (decide (rb < ra2)) (fun r =>
   0 ≤ (bits .and .i64 sV (63 : Int)) ∧ Ok87 (decide ((IntKind.u64.wrap (rb - ra2)) > (1 : Int))) (fun r2 =>
   R (bits .or .u64 (Int.fdiv (IntKind.u64.wrap (ra - r)) (2 ^ (min (Int.toNat (bits .and .i64 sV (63 : Int))) 64))) r2))))))
theorem ok98 {x pmHiV pmLoV sV} {R : Int → Prop} (T : T98 x pmHiV pmLoV sV R) : Ok98 x pmHiV pmLoV sV R := by
  intro h cB cO H
  have Y : Sy h [] h _ := Sy.startM H rfl
  apply calls98
  unfold S98
  unfold T98 at T
  refine ⟨cB, cO, rfl, ?_⟩
  refine ⟨_, Y.cellW 0 rfl 0 rfl, ?_⟩
  refine callX_sy (T _ (Hp.nil _)) (fun _ _ ⟨_, _, p, _⟩ => p.fr) alln ?_
  rintro v hv ⟨ra, rb, PP, rfl, T⟩
  have Y : Sy _ _ hv [_] := Y.gr PP.fr
  clear PP
  refine ⟨ra, rb, rfl, ?_⟩
  refine ⟨cB, cO, rfl, ?_⟩
  refine ⟨_, Y.cellW 0 rfl 2 rfl, ?_⟩
  obtain ⟨q_4, T⟩ := T
  refine ⟨q_4, ?_⟩
  obtain ⟨q_3, T⟩ := T
  refine ⟨q_3, ?_⟩
  refine cnd_imp T (fun T => ?_) (fun T => ?_)
  · obtain ⟨q, T⟩ := T
    refine ⟨q, ?_⟩
    exact ⟨_, Y.pick [] rfl, rfl, T⟩
  · refine ⟨cB, cO, rfl, ?_⟩
    refine ⟨_, Y.cellW 0 rfl 1 rfl, ?_⟩
    refine callX_sy (T _ (Hp.nil _)) (fun _ _ ⟨_, _, p, _⟩ => p.fr) alln ?_
    rintro v2 hv2 ⟨ra2, rb2, PP, rfl, T⟩
    have Y : Sy _ _ hv2 [_] := Y.gr PP.fr
    clear PP
    refine ⟨ra2, rb2, rfl, ?_⟩
    refine callX_sy (T _ (Hp.nil _)) (fun _ _ ⟨_, p, _⟩ => p.fr) alln ?_
    rintro v3 hv3 ⟨r, PP, rfl, T⟩
    have Y : Sy _ _ hv3 [_] := Y.gr PP.fr
    clear PP
    refine ⟨r, rfl, ?_⟩
    have Y0 := Y
    have F : Fr [] hv3 hv3 := Fr.refl _ _
    obtain ⟨q_2, T⟩ := T
    refine ⟨q_2, ?_⟩
    refine callX_sy (T _ (Hp.nil _)) (fun _ _ ⟨_, p, _⟩ => p.fr) alln ?_
    rintro v4 hv4 ⟨r2, PP, rfl, T⟩
    have F : Fr _ _ hv4 := F.trans PP.fr.nil
    have fshv4 := F.size
    have Y : Sy _ _ hv4 [_] := Y.gr PP.fr
    clear PP
    refine ⟨r2, rfl, ?_⟩
    refine ⟨F, ?_⟩
    exact ⟨_, Y.pick [] rfl, rfl, T⟩
/-- internal/strconv.shortFloat[float64] -/
def S73 (m : Int) (ev : Int) (h : Heap) (R : Value → Heap → Prop) : Prop :=
  ∃ Jv : List Value → Heap → Prop,
  ( cnd ((IntKind.u64.wrap ((8 : Int) * (8 : Int))) == (32 : Int))
   (Jv [.int .i64 23, .int .i64 (-189)] h)
   (∃ Jv2 : List Value → Heap → Prop,
   ( cnd ((IntKind.u64.wrap ((8 : Int) * (8 : Int))) == (64 : Int))
     (Jv2 [.int .i64 52, .int .i64 (-1085)] h)
     (Jv2 [.int .i64 0, .int .i64 0] h)) ∧
   ∀ mantBits : Int, ∀ minExp : Int, ∀ hv, Jv2 [.int .i64 mantBits, .int .i64 minExp] hv →
   Jv [.int .i64 mantBits, .int .i64 minExp] hv)) ∧
  ∀ mantBits2 : Int, ∀ minExp2 : Int, ∀ hv2, Jv [.int .i64 mantBits2, .int .i64 minExp2] hv2 →
  let K := fun (p4 : Int) (min4 : Int) (max4 : Int) (odd4 : Int) (hv11 : Heap) =>
   (let hv12 : Heap := hv11.push (.cells #[.int .u64 0, .int .u64 0, .int .i64 0] 136)
   callX Tryz.prog 97 #[.int .i64 p4] hv12 [] fun v6 hv13 =>
   ∃ r6 : Int, v6 = .int .i64 r6 ∧
   callX Tryz.prog 96 #[.pointer (some (⟨hv11.size, 0, none⟩ : Addr)), .int .i64 ev, .int .i64 p4, .int .i64 r6] hv13 [] fun v7 hv14 =>
   v7 = .tuple #[] ∧
   callX Tryz.prog 98 #[.int .u64 min4, .pointer (some (⟨hv11.size, 0, none⟩ : Addr))] hv14 [] fun v8 hv15 =>
   ∃ r7 : Int, v8 = .int .u64 r7 ∧
   callX Tryz.prog 99 #[.int .u64 r7, .int .i64 odd4] hv15 [] fun v9 hv16 =>
   ∃ r8 : Int, v9 = .int .u64 r8 ∧
   callX Tryz.prog 100 #[.int .u64 r8] hv16 [] fun v10 hv17 =>
   ∃ r9 : Int, v10 = .int .u64 r9 ∧
   callX Tryz.prog 98 #[.int .u64 max4, .pointer (some (⟨hv11.size, 0, none⟩ : Addr))] hv17 [] fun v11 hv18 =>
   ∃ r10 : Int, v11 = .int .u64 r10 ∧
   callX Tryz.prog 99 #[.int .u64 r10, .int .i64 (IntKind.i64.wrap (0 - odd4))] hv18 [] fun v12 hv19 =>
   ∃ r11 : Int, v12 = .int .u64 r11 ∧
   callX Tryz.prog 101 #[.int .u64 r11] hv19 [] fun v13 hv20 =>
   ∃ r12 : Int, v13 = .int .u64 r12 ∧
   (10 : Int) ≠ 0 ∧ cnd (decide ((IntKind.u64.wrap ((IntKind.u64.wrap (Int.tdiv r12 (10 : Int))) * (10 : Int))) ≥ r9))
    (R (.tuple #[.int .u64 (IntKind.u64.wrap (Int.tdiv r12 (10 : Int))), .int .i64 (IntKind.i64.wrap (0 - (IntKind.i64.wrap (p4 - (1 : Int)))))]) hv20)
    (∃ Jv6 : List Value → Heap → Prop,
    ( cnd (decide (r9 < r12))
     (callX Tryz.prog 98 #[.int .u64 m, .pointer (some (⟨hv11.size, 0, none⟩ : Addr))] hv20 [] fun v14 hv21 =>
     ∃ r13 : Int, v14 = .int .u64 r13 ∧
     callX Tryz.prog 102 #[.int .u64 r13] hv21 [] fun v15 hv22 =>
     ∃ r14 : Int, v15 = .int .u64 r14 ∧
     Jv6 [.int .u64 r14] hv22)
     (Jv6 [.int .u64 r9] hv20)) ∧
    ∀ d : Int, ∀ hv23, Jv6 [.int .u64 d] hv23 →
    R (.tuple #[.int .u64 d, .int .i64 (IntKind.i64.wrap (0 - p4))]) hv23))
  cnd (m == (9223372036854775808 : Int))
   (∃ Jv3 : List Value → Heap → Prop,
   ( cnd (decide (ev > minExp2))
    (callX Tryz.prog 95 #[.int .i64 (IntKind.i64.wrap (ev + (IntKind.i64.wrap ((63 : Int) - mantBits2))))] hv2 [] fun v hv3 =>
    ∃ r : Int, v = .int .i64 r ∧
    0 ≤ (IntKind.i64.wrap ((IntKind.i64.wrap ((63 : Int) - mantBits2)) - (2 : Int))) ∧ 0 ≤ (IntKind.i64.wrap ((IntKind.i64.wrap ((63 : Int) - mantBits2)) - (1 : Int))) ∧ 0 ≤ (IntKind.i64.wrap ((63 : Int) - mantBits2)) ∧ Jv3 [.int .i64 (IntKind.i64.wrap (0 - r)), .int .u64 (IntKind.u64.wrap (m - (IntKind.u64.wrap ((1 : Int) * 2 ^ (min (Int.toNat (IntKind.i64.wrap ((IntKind.i64.wrap ((63 : Int) - mantBits2)) - (2 : Int)))) 64))))), .int .u64 (IntKind.u64.wrap (m + (IntKind.u64.wrap ((1 : Int) * 2 ^ (min (Int.toNat (IntKind.i64.wrap ((IntKind.i64.wrap ((63 : Int) - mantBits2)) - (1 : Int)))) 64))))), .int .i64 (bits .and .i64 (IntKind.i64.wrap (Int.fdiv m (2 ^ (min (Int.toNat (IntKind.i64.wrap ((63 : Int) - mantBits2))) 64)))) (1 : Int))] hv3)
    (∃ Jv4 : List Value → Heap → Prop,
    ( cnd (decide (ev ≥ minExp2))
      (callX Tryz.prog 68 #[.int .i64 (IntKind.i64.wrap (ev + (IntKind.i64.wrap ((63 : Int) - mantBits2))))] hv2 [] fun v2 hv4 =>
      ∃ r2 : Int, v2 = .int .i64 r2 ∧
      0 ≤ (IntKind.i64.wrap ((IntKind.i64.wrap ((63 : Int) - mantBits2)) - (1 : Int))) ∧ 0 ≤ (IntKind.i64.wrap ((IntKind.i64.wrap ((63 : Int) - mantBits2)) - (1 : Int))) ∧ 0 ≤ (IntKind.i64.wrap ((63 : Int) - mantBits2)) ∧ Jv4 [.int .i64 (IntKind.i64.wrap (0 - r2)), .int .u64 (IntKind.u64.wrap (m - (IntKind.u64.wrap ((1 : Int) * 2 ^ (min (Int.toNat (IntKind.i64.wrap ((IntKind.i64.wrap ((63 : Int) - mantBits2)) - (1 : Int)))) 64))))), .int .u64 (IntKind.u64.wrap (m + (IntKind.u64.wrap ((1 : Int) * 2 ^ (min (Int.toNat (IntKind.i64.wrap ((IntKind.i64.wrap ((63 : Int) - mantBits2)) - (1 : Int)))) 64))))), .int .i64 (bits .and .i64 (IntKind.i64.wrap (Int.fdiv m (2 ^ (min (Int.toNat (IntKind.i64.wrap ((63 : Int) - mantBits2))) 64)))) (1 : Int))] hv4)
      (callX Tryz.prog 68 #[.int .i64 (IntKind.i64.wrap (ev + (IntKind.i64.wrap ((IntKind.i64.wrap ((63 : Int) - mantBits2)) + (IntKind.i64.wrap (minExp2 - ev))))))] hv2 [] fun v3 hv5 =>
      ∃ r3 : Int, v3 = .int .i64 r3 ∧
      0 ≤ (IntKind.i64.wrap ((IntKind.i64.wrap ((IntKind.i64.wrap ((63 : Int) - mantBits2)) + (IntKind.i64.wrap (minExp2 - ev)))) - (1 : Int))) ∧ 0 ≤ (IntKind.i64.wrap ((IntKind.i64.wrap ((IntKind.i64.wrap ((63 : Int) - mantBits2)) + (IntKind.i64.wrap (minExp2 - ev)))) - (1 : Int))) ∧ 0 ≤ (IntKind.i64.wrap ((IntKind.i64.wrap ((63 : Int) - mantBits2)) + (IntKind.i64.wrap (minExp2 - ev)))) ∧ Jv4 [.int .i64 (IntKind.i64.wrap (0 - r3)), .int .u64 (IntKind.u64.wrap (m - (IntKind.u64.wrap ((1 : Int) * 2 ^ (min (Int.toNat (IntKind.i64.wrap ((IntKind.i64.wrap ((IntKind.i64.wrap ((63 : Int) - mantBits2)) + (IntKind.i64.wrap (minExp2 - ev)))) - (1 : Int)))) 64))))), .int .u64 (IntKind.u64.wrap (m + (IntKind.u64.wrap ((1 : Int) * 2 ^ (min (Int.toNat (IntKind.i64.wrap ((IntKind.i64.wrap ((IntKind.i64.wrap ((63 : Int) - mantBits2)) + (IntKind.i64.wrap (minExp2 - ev)))) - (1 : Int)))) 64))))), .int .i64 (bits .and .i64 (IntKind.i64.wrap (Int.fdiv m (2 ^ (min (Int.toNat (IntKind.i64.wrap ((IntKind.i64.wrap ((63 : Int) - mantBits2)) + (IntKind.i64.wrap (minExp2 - ev))))) 64)))) (1 : Int))] hv5)) ∧
    ∀ p : Int, ∀ min : Int, ∀ max : Int, ∀ odd : Int, ∀ hv6, Jv4 [.int .i64 p, .int .u64 min, .int .u64 max, .int .i64 odd] hv6 →
    Jv3 [.int .i64 p, .int .u64 min, .int .u64 max, .int .i64 odd] hv6)) ∧
   ∀ p2 : Int, ∀ min2 : Int, ∀ max2 : Int, ∀ odd2 : Int, ∀ hv7, Jv3 [.int .i64 p2, .int .u64 min2, .int .u64 max2, .int .i64 odd2] hv7 →
   K p2 min2 max2 odd2 hv7)
   (∃ Jv5 : List Value → Heap → Prop,
   ( cnd (decide (ev ≥ minExp2))
    (callX Tryz.prog 68 #[.int .i64 (IntKind.i64.wrap (ev + (IntKind.i64.wrap ((63 : Int) - mantBits2))))] hv2 [] fun v4 hv8 =>
    ∃ r4 : Int, v4 = .int .i64 r4 ∧
    0 ≤ (IntKind.i64.wrap ((IntKind.i64.wrap ((63 : Int) - mantBits2)) - (1 : Int))) ∧ 0 ≤ (IntKind.i64.wrap ((IntKind.i64.wrap ((63 : Int) - mantBits2)) - (1 : Int))) ∧ 0 ≤ (IntKind.i64.wrap ((63 : Int) - mantBits2)) ∧ Jv5 [.int .i64 (IntKind.i64.wrap (0 - r4)), .int .u64 (IntKind.u64.wrap (m - (IntKind.u64.wrap ((1 : Int) * 2 ^ (min (Int.toNat (IntKind.i64.wrap ((IntKind.i64.wrap ((63 : Int) - mantBits2)) - (1 : Int)))) 64))))), .int .u64 (IntKind.u64.wrap (m + (IntKind.u64.wrap ((1 : Int) * 2 ^ (min (Int.toNat (IntKind.i64.wrap ((IntKind.i64.wrap ((63 : Int) - mantBits2)) - (1 : Int)))) 64))))), .int .i64 (bits .and .i64 (IntKind.i64.wrap (Int.fdiv m (2 ^ (min (Int.toNat (IntKind.i64.wrap ((63 : Int) - mantBits2))) 64)))) (1 : Int))] hv8)
    (callX Tryz.prog 68 #[.int .i64 (IntKind.i64.wrap (ev + (IntKind.i64.wrap ((IntKind.i64.wrap ((63 : Int) - mantBits2)) + (IntKind.i64.wrap (minExp2 - ev))))))] hv2 [] fun v5 hv9 =>
    ∃ r5 : Int, v5 = .int .i64 r5 ∧
    0 ≤ (IntKind.i64.wrap ((IntKind.i64.wrap ((IntKind.i64.wrap ((63 : Int) - mantBits2)) + (IntKind.i64.wrap (minExp2 - ev)))) - (1 : Int))) ∧ 0 ≤ (IntKind.i64.wrap ((IntKind.i64.wrap ((IntKind.i64.wrap ((63 : Int) - mantBits2)) + (IntKind.i64.wrap (minExp2 - ev)))) - (1 : Int))) ∧ 0 ≤ (IntKind.i64.wrap ((IntKind.i64.wrap ((63 : Int) - mantBits2)) + (IntKind.i64.wrap (minExp2 - ev)))) ∧ Jv5 [.int .i64 (IntKind.i64.wrap (0 - r5)), .int .u64 (IntKind.u64.wrap (m - (IntKind.u64.wrap ((1 : Int) * 2 ^ (min (Int.toNat (IntKind.i64.wrap ((IntKind.i64.wrap ((IntKind.i64.wrap ((63 : Int) - mantBits2)) + (IntKind.i64.wrap (minExp2 - ev)))) - (1 : Int)))) 64))))), .int .u64 (IntKind.u64.wrap (m + (IntKind.u64.wrap ((1 : Int) * 2 ^ (min (Int.toNat (IntKind.i64.wrap ((IntKind.i64.wrap ((IntKind.i64.wrap ((63 : Int) - mantBits2)) + (IntKind.i64.wrap (minExp2 - ev)))) - (1 : Int)))) 64))))), .int .i64 (bits .and .i64 (IntKind.i64.wrap (Int.fdiv m (2 ^ (min (Int.toNat (IntKind.i64.wrap ((IntKind.i64.wrap ((63 : Int) - mantBits2)) + (IntKind.i64.wrap (minExp2 - ev))))) 64)))) (1 : Int))] hv9)) ∧
   ∀ p3 : Int, ∀ min3 : Int, ∀ max3 : Int, ∀ odd3 : Int, ∀ hv10, Jv5 [.int .i64 p3, .int .u64 min3, .int .u64 max3, .int .i64 odd3] hv10 →
   K p3 min3 max3 odd3 hv10)
theorem calls73 {h : Heap} {R : Value → Heap → Prop} (m : Int) (ev : Int) (H : S73 m ev h R) : CallsH Tryz.prog 73 #[.int .u64 m, .int .i64 ev] h R := by
  have e : S73 m ev h R = FX (envX [] 133) { loops := [], joins := [(16, ⟨[0, 1, 5], [6, 7], [], []⟩), (18, ⟨[0, 1, 5], [6, 7], [], []⟩), (28, ⟨[0, 1], [5, 8, 9, 10], [], []⟩), (51, ⟨[0, 1], [5, 8, 9, 10], [], []⟩), (126, ⟨[5], [4], [], []⟩)], blocks := [], draws := [] } Tryz.f73 (Tryz.f73.body.getD .skip) [.int .u64 m, .int .i64 ev] h R := by kernel_rfl
  exact calls_of_FX (envX_ok _ _) Tryz.func73 (by kernel_rfl) (by kernel_rfl) (by kernel_rfl) (e ▸ H)
/-- internal/strconv.shortFloat[float64] -/
def Ok73 (m : Int) (ev : Int) (R : Int → Int → Prop) : Prop :=
  ∀ (h : Heap) (gl : GL), Hp h [Ck.glob gl] → CallsH Tryz.prog 73 #[.int .u64 m, .int .i64 ev] h fun v h' => ∃ (raV : Int) (rbV : Int), Sy h [] h' [] ∧ v = .tuple #[.int .u64 raV, .int .i64 rbV] ∧ R raV rbV
theorem Ok73.mono {m ev} {R R' : Int → Int → Prop} (H : Ok73 m ev R) (kz : ∀ raV rbV, R raV rbV → R' raV rbV) : Ok73 m ev R' :=
  fun h gl hp => (H h gl hp).mono fun _ _ ⟨raV, rbV, P, e, q⟩ => ⟨raV, rbV, P, e, kz _ _ q⟩
def T73 (m : Int) (ev : Int) (R : Int → Int → Prop) : Prop :=
  ∃ Jv : Int → Int → Prop,
  ( cnd ((IntKind.u64.wrap ((8 : Int) * (8 : Int))) == (32 : Int))
   (Jv 23 (-189))
   (∃ Jv2 : Int → Int → Prop,
   ( cnd ((IntKind.u64.wrap ((8 : Int) * (8 : Int))) == (64 : Int))
     (Jv2 52 (-1085))
     (Jv2 0 0)) ∧
   ∀ mantBits : Int, ∀ minExp : Int, Jv2 mantBits minExp →
   Jv mantBits minExp)) ∧
  ∀ mantBits2 : Int, ∀ minExp2 : Int, Jv mantBits2 minExp2 →
  ∃ Jv_2 : Int → Int → Int → Int → Prop,
  ( cnd (m == (9223372036854775808 : Int))
   (∃ Jv3 : Int → Int → Int → Int → Prop,
   ( cnd (decide (ev > minExp2))
     (Ok95 (IntKind.i64.wrap (ev + (IntKind.i64.wrap ((63 : Int) - mantBits2)))) (fun r =>
     0 ≤ (IntKind.i64.wrap ((IntKind.i64.wrap ((63 : Int) - mantBits2)) - (2 : Int))) ∧ 0 ≤ (IntKind.i64.wrap ((IntKind.i64.wrap ((63 : Int) - mantBits2)) - (1 : Int))) ∧ 0 ≤ (IntKind.i64.wrap ((63 : Int) - mantBits2)) ∧ Jv3 (IntKind.i64.wrap (0 - r)) (IntKind.u64.wrap (m - (IntKind.u64.wrap ((1 : Int) * 2 ^ (min (Int.toNat (IntKind.i64.wrap ((IntKind.i64.wrap ((63 : Int) - mantBits2)) - (2 : Int)))) 64))))) (IntKind.u64.wrap (m + (IntKind.u64.wrap ((1 : Int) * 2 ^ (min (Int.toNat (IntKind.i64.wrap ((IntKind.i64.wrap ((63 : Int) - mantBits2)) - (1 : Int)))) 64))))) (bits .and .i64 (IntKind.i64.wrap (Int.fdiv m (2 ^ (min (Int.toNat (IntKind.i64.wrap ((63 : Int) - mantBits2))) 64)))) (1 : Int))))
     (∃ Jv4 : Int → Int → Int → Int → Prop,
     ( cnd (decide (ev ≥ minExp2))
      (Ok68 (IntKind.i64.wrap (ev + (IntKind.i64.wrap ((63 : Int) - mantBits2)))) (fun r2 =>
      0 ≤ (IntKind.i64.wrap ((IntKind.i64.wrap ((63 : Int) - mantBits2)) - (1 : Int))) ∧ 0 ≤ (IntKind.i64.wrap ((IntKind.i64.wrap ((63 : Int) - mantBits2)) - (1 : Int))) ∧ 0 ≤ (IntKind.i64.wrap ((63 : Int) - mantBits2)) ∧ Jv4 (IntKind.i64.wrap (0 - r2)) (IntKind.u64.wrap (m - (IntKind.u64.wrap ((1 : Int) * 2 ^ (min (Int.toNat (IntKind.i64.wrap ((IntKind.i64.wrap ((63 : Int) - mantBits2)) - (1 : Int)))) 64))))) (IntKind.u64.wrap (m + (IntKind.u64.wrap ((1 : Int) * 2 ^ (min (Int.toNat (IntKind.i64.wrap ((IntKind.i64.wrap ((63 : Int) - mantBits2)) - (1 : Int)))) 64))))) (bits .and .i64 (IntKind.i64.wrap (Int.fdiv m (2 ^ (min (Int.toNat (IntKind.i64.wrap ((63 : Int) - mantBits2))) 64)))) (1 : Int))))
      (Ok68 (IntKind.i64.wrap (ev + (IntKind.i64.wrap ((IntKind.i64.wrap ((63 : Int) - mantBits2)) + (IntKind.i64.wrap (minExp2 - ev)))))) (fun r3 =>
      0 ≤ (IntKind.i64.wrap ((IntKind.i64.wrap ((IntKind.i64.wrap ((63 : Int) - mantBits2)) + (IntKind.i64.wrap (minExp2 - ev)))) - (1 : Int))) ∧ 0 ≤ (IntKind.i64.wrap ((IntKind.i64.wrap ((IntKind.i64.wrap ((63 : Int) - mantBits2)) + (IntKind.i64.wrap (minExp2 - ev)))) - (1 : Int))) ∧ 0 ≤ (IntKind.i64.wrap ((IntKind.i64.wrap ((63 : Int) - mantBits2)) + (IntKind.i64.wrap (minExp2 - ev)))) ∧ Jv4 (IntKind.i64.wrap (0 - r3)) (IntKind.u64.wrap (m - (IntKind.u64.wrap ((1 : Int) * 2 ^ (min (Int.toNat (IntKind.i64.wrap ((IntKind.i64.wrap ((IntKind.i64.wrap ((63 : Int) - mantBits2)) + (IntKind.i64.wrap (minExp2 - ev)))) - (1 : Int)))) 64))))) (IntKind.u64.wrap (m + (IntKind.u64.wrap ((1 : Int) * 2 ^ (min (Int.toNat (IntKind.i64.wrap ((IntKind.i64.wrap ((IntKind.i64.wrap ((63 : Int) - mantBits2)) + (IntKind.i64.wrap (minExp2 - ev)))) - (1 : Int)))) 64))))) (bits .and .i64 (IntKind.i64.wrap (Int.fdiv m (2 ^ (min (Int.toNat (IntKind.i64.wrap ((IntKind.i64.wrap ((63 : Int) - mantBits2)) + (IntKind.i64.wrap (minExp2 - ev))))) 64)))) (1 : Int))))) ∧
     ∀ p : Int, ∀ min : Int, ∀ max : Int, ∀ odd : Int, Jv4 p min max odd →
     Jv3 p min max odd)) ∧
   ∀ p2 : Int, ∀ min2 : Int, ∀ max2 : Int, ∀ odd2 : Int, Jv3 p2 min2 max2 odd2 →
   Jv_2 p2 min2 max2 odd2)
   (∃ Jv5 : Int → Int → Int → Int → Prop,
   ( cnd (decide (ev ≥ minExp2))
     (Ok68 (IntKind.i64.wrap (ev + (IntKind.i64.wrap ((63 : Int) - mantBits2)))) (fun r4 =>
     0 ≤ (IntKind.i64.wrap ((IntKind.i64.wrap ((63 : Int) - mantBits2)) - (1 : Int))) ∧ 0 ≤ (IntKind.i64.wrap ((IntKind.i64.wrap ((63 : Int) - mantBits2)) - (1 : Int))) ∧ 0 ≤ (IntKind.i64.wrap ((63 : Int) - mantBits2)) ∧ Jv5 (IntKind.i64.wrap (0 - r4)) (IntKind.u64.wrap (m - (IntKind.u64.wrap ((1 : Int) * 2 ^ (min (Int.toNat (IntKind.i64.wrap ((IntKind.i64.wrap ((63 : Int) - mantBits2)) - (1 : Int)))) 64))))) (IntKind.u64.wrap (m + (IntKind.u64.wrap ((1 : Int) * 2 ^ (min (Int.toNat (IntKind.i64.wrap ((IntKind.i64.wrap ((63 : Int) - mantBits2)) - (1 : Int)))) 64))))) (bits .and .i64 (IntKind.i64.wrap (Int.fdiv m (2 ^ (min (Int.toNat (IntKind.i64.wrap ((63 : Int) - mantBits2))) 64)))) (1 : Int))))
     (Ok68 (IntKind.i64.wrap (ev + (IntKind.i64.wrap ((IntKind.i64.wrap ((63 : Int) - mantBits2)) + (IntKind.i64.wrap (minExp2 - ev)))))) (fun r5 =>
     0 ≤ (IntKind.i64.wrap ((IntKind.i64.wrap ((IntKind.i64.wrap ((63 : Int) - mantBits2)) + (IntKind.i64.wrap (minExp2 - ev)))) - (1 : Int))) ∧ 0 ≤ (IntKind.i64.wrap ((IntKind.i64.wrap ((IntKind.i64.wrap ((63 : Int) - mantBits2)) + (IntKind.i64.wrap (minExp2 - ev)))) - (1 : Int))) ∧ 0 ≤ (IntKind.i64.wrap ((IntKind.i64.wrap ((63 : Int) - mantBits2)) + (IntKind.i64.wrap (minExp2 - ev)))) ∧ Jv5 (IntKind.i64.wrap (0 - r5)) (IntKind.u64.wrap (m - (IntKind.u64.wrap ((1 : Int) * 2 ^ (min (Int.toNat (IntKind.i64.wrap ((IntKind.i64.wrap ((IntKind.i64.wrap ((63 : Int) - mantBits2)) + (IntKind.i64.wrap (minExp2 - ev)))) - (1 : Int)))) 64))))) (IntKind.u64.wrap (m + (IntKind.u64.wrap ((1 : Int) * 2 ^ (min (Int.toNat (IntKind.i64.wrap ((IntKind.i64.wrap ((IntKind.i64.wrap ((63 : Int) - mantBits2)) + (IntKind.i64.wrap (minExp2 - ev)))) - (1 : Int)))) 64))))) (bits .and .i64 (IntKind.i64.wrap (Int.fdiv m (2 ^ (min (Int.toNat (IntKind.i64.wrap ((IntKind.i64.wrap ((63 : Int) - mantBits2)) + (IntKind.i64.wrap (minExp2 - ev))))) 64)))) (1 : Int))))) ∧
   ∀ p3 : Int, ∀ min3 : Int, ∀ max3 : Int, ∀ odd3 : Int, Jv5 p3 min3 max3 odd3 →
   Jv_2 p3 min3 max3 odd3)) ∧
  ∀ p4 : Int, ∀ min4 : Int, ∀ max4 : Int, ∀ odd4 : Int, Jv_2 p4 min4 max4 odd4 →
  Ok97 p4 (fun r6 =>
  Ok96 0 0 0 ev p4 r6 (fun pmHiV2 pmLoV2 sV2 =>
  Ok98 min4 pmHiV2 pmLoV2 sV2 (fun r7 =>
  Ok99 r7 odd4 (fun r8 =>
  Ok100 r8 (fun r9 =>
  Ok98 max4 pmHiV2 pmLoV2 sV2 (fun r10 =>
  Ok99 r10 (IntKind.i64.wrap (0 - odd4)) (fun r11 =>
  Ok101 r11 (fun r12 =>
  (10 : Int) ≠ 0 ∧ cnd (decide ((IntKind.u64.wrap ((IntKind.u64.wrap (Int.tdiv r12 (10 : Int))) * (10 : Int))) ≥ r9))
   (R (IntKind.u64.wrap (Int.tdiv r12 (10 : Int))) (IntKind.i64.wrap (0 - (IntKind.i64.wrap (p4 - (1 : Int))))))
   (∃ Jv6 : Int → Prop,
   ( cnd (decide (r9 < r12))
    (Ok98 m pmHiV2 pmLoV2 sV2 (fun r13 =>
    Ok102 r13 (fun r14 =>
    Jv6 r14)))
    (Jv6 r9)) ∧
   ∀ d : Int, Jv6 d →
   R d (IntKind.i64.wrap (0 - p4)))))))))))
theorem ok73 {m ev} {R : Int → Int → Prop} (T : T73 m ev R) : Ok73 m ev R := by
  intro h gl H
  have Y : Sy h [] h _ := Sy.startM H rfl
  apply calls73
  unfold S73
  unfold T73 at T
  obtain ⟨Jv, T0, T1⟩ := T
  obtain ⟨B, hB, _⟩ := Y.cut [] [0] rfl
  refine ⟨fun lz h' => ∃ (mantBits2 : Int) (minExp2 : Int), lz = [.int .i64 mantBits2, .int .i64 minExp2] ∧ Sy h [] h' ([] ++ B) ∧ Jv mantBits2 minExp2, ?_, ?_⟩
  · subst hB
    replace T := T0
    clear T0 T1
    refine cnd_imp T (fun T => ?_) (fun T => ?_)
    · exact ⟨_, _, rfl, Y.pick [0] rfl, T⟩
    · obtain ⟨Jv2, T0, T1⟩ := T
      obtain ⟨B_2, hB_2, _⟩ := Y.cut [] [0] rfl
      refine ⟨fun lz h' => ∃ (mantBits : Int) (minExp : Int), lz = [.int .i64 mantBits, .int .i64 minExp] ∧ Sy h [] h' ([] ++ B_2) ∧ Jv2 mantBits minExp, ?_, ?_⟩
      · subst hB_2
        replace T := T0
        clear T0 T1
        refine cnd_imp T (fun T => ?_) (fun T => ?_)
        · exact ⟨_, _, rfl, Y.pick [0] rfl, T⟩
        · exact ⟨_, _, rfl, Y.pick [0] rfl, T⟩
      · subst hB_2
        clear T0 Y
        rintro mantBits minExp hv ⟨mantBits, minExp, e, Y, T⟩
        cases e
        replace T := T1 mantBits minExp T
        have Y : Sy _ _ _ [_] := Y
        exact ⟨_, _, rfl, Y.pick [0] rfl, T⟩
  · subst hB
    clear T0 Y
    rintro mantBits2 minExp2 hv2 ⟨mantBits2, minExp2, e, Y, T⟩
    cases e
    replace T := T1 mantBits2 minExp2 T
    have Y : Sy _ _ _ [_] := Y
    obtain ⟨Jv_2, T0, T1⟩ := T
    obtain ⟨B_3, hB_3, _⟩ := Y.cut [] [0] rfl
    intro K
    have hK : ∀ (p4 : Int) (min4 : Int) (max4 : Int) (odd4 : Int) (hv11 : Heap), (Sy h [] hv11 ([] ++ B_3) ∧ Jv_2 p4 min4 max4 odd4) → K p4 min4 max4 odd4 hv11 := by
      subst hB_3
      clear T0 Y
      rintro p4 min4 max4 odd4 hv11 ⟨Y, T⟩
      replace T := T1 p4 min4 max4 odd4 T
      have Y : Sy _ _ _ [_] := Y
      unfold K
      intro hv12
      have Y : Sy _ _ hv12 [_, _] := Y.newO _
      clear_value hv12
      refine callX_sy (T _ (Hp.nil _)) (fun _ _ ⟨_, p, _⟩ => p.fr) alln ?_
      rintro v6 hv13 ⟨r6, PP, rfl, T⟩
      have Y : Sy _ _ hv13 [_, _] := Y.gr PP.fr
      clear PP
      refine ⟨r6, rfl, ?_⟩
      refine callX_sy (T _ _ _ (Y.pick [0, 1] rfl).hp) (fun _ _ ⟨_, _, _, p, _⟩ => p.fr) alln ?_
      rintro v7 hv14 ⟨pmHiV2, pmLoV2, sV2, PP, rfl, T⟩
      have Y : Sy _ _ hv14 [_, _] := Y.call2 [1, 0] rfl (A := [_]) rfl rfl PP ⟨rfl, trivial⟩
      clear PP
      refine ⟨rfl, ?_⟩
      refine callX_sy (T _ _ _ ((Y.turn 0 rfl To.obvob).pick [0] rfl).hp) (fun _ _ ⟨_, p, _⟩ => p.fr) alln ?_
      rintro v8 hv15 ⟨r7, PP, rfl, T⟩
      have Y : Sy _ _ hv15 [_, _] := Y.gr PP.fr
      clear PP
      refine ⟨r7, rfl, ?_⟩
      refine callX_sy (T _ (Hp.nil _)) (fun _ _ ⟨_, p, _⟩ => p.fr) alln ?_
      rintro v9 hv16 ⟨r8, PP, rfl, T⟩
      have Y : Sy _ _ hv16 [_, _] := Y.gr PP.fr
      clear PP
      refine ⟨r8, rfl, ?_⟩
      refine callX_sy (T _ (Hp.nil _)) (fun _ _ ⟨_, p, _⟩ => p.fr) alln ?_
      rintro v10 hv17 ⟨r9, PP, rfl, T⟩
      have Y : Sy _ _ hv17 [_, _] := Y.gr PP.fr
      clear PP
      refine ⟨r9, rfl, ?_⟩
      refine callX_sy (T _ _ _ ((Y.turn 0 rfl To.obvob).pick [0] rfl).hp) (fun _ _ ⟨_, p, _⟩ => p.fr) alln ?_
      rintro v11 hv18 ⟨r10, PP, rfl, T⟩
      have Y : Sy _ _ hv18 [_, _] := Y.gr PP.fr
      clear PP
      refine ⟨r10, rfl, ?_⟩
      refine callX_sy (T _ (Hp.nil _)) (fun _ _ ⟨_, p, _⟩ => p.fr) alln ?_
      rintro v12 hv19 ⟨r11, PP, rfl, T⟩
      have Y : Sy _ _ hv19 [_, _] := Y.gr PP.fr
      clear PP
      refine ⟨r11, rfl, ?_⟩
      refine callX_sy (T _ (Hp.nil _)) (fun _ _ ⟨_, p, _⟩ => p.fr) alln ?_
      rintro v13 hv20 ⟨r12, PP, rfl, T⟩
      have Y : Sy _ _ hv20 [_, _] := Y.gr PP.fr
      clear PP
      refine ⟨r12, rfl, ?_⟩
      obtain ⟨q, T⟩ := T
      refine ⟨q, ?_⟩
      refine cnd_imp T (fun T => ?_) (fun T => ?_)
      · exact ⟨_, _, Y.pick [] rfl, rfl, T⟩
      · obtain ⟨Jv6, T0, T1⟩ := T
        obtain ⟨B_4, hB_4, _⟩ := Y.cut [] [0, 1] rfl
        refine ⟨fun lz h' => ∃ (d : Int), lz = [.int .u64 d] ∧ Sy h [] h' ([] ++ B_4) ∧ Jv6 d, ?_, ?_⟩
        · subst hB_4
          replace T := T0
          clear T0 T1
          refine cnd_imp T (fun T => ?_) (fun T => ?_)
          · refine callX_sy (T _ _ _ ((Y.turn 0 rfl To.obvob).pick [0] rfl).hp) (fun _ _ ⟨_, p, _⟩ => p.fr) alln ?_
            rintro v14 hv21 ⟨r13, PP, rfl, T⟩
            have Y : Sy _ _ hv21 [_, _] := Y.gr PP.fr
            clear PP
            refine ⟨r13, rfl, ?_⟩
            refine callX_sy (T _ (Hp.nil _)) (fun _ _ ⟨_, p, _⟩ => p.fr) alln ?_
            rintro v15 hv22 ⟨r14, PP, rfl, T⟩
            have Y : Sy _ _ hv22 [_, _] := Y.gr PP.fr
            clear PP
            refine ⟨r14, rfl, ?_⟩
            exact ⟨_, rfl, Y.pick [0, 1] rfl, T⟩
          · exact ⟨_, rfl, Y.pick [0, 1] rfl, T⟩
        · subst hB_4
          clear T0 Y
          rintro d hv23 ⟨d, e, Y, T⟩
          cases e
          replace T := T1 d T
          have Y : Sy _ _ _ [_, _] := Y
          exact ⟨_, _, Y.pick [] rfl, rfl, T⟩
    subst hB_3
    replace T := T0
    clear T0 T1
    refine cnd_imp T (fun T => ?_) (fun T => ?_)
    · obtain ⟨Jv3, T0, T1⟩ := T
      obtain ⟨B_5, hB_5, _⟩ := Y.cut [] [0] rfl
      refine ⟨fun lz h' => ∃ (p2 : Int) (min2 : Int) (max2 : Int) (odd2 : Int), lz = [.int .i64 p2, .int .u64 min2, .int .u64 max2, .int .i64 odd2] ∧ Sy h [] h' ([] ++ B_5) ∧ Jv3 p2 min2 max2 odd2, ?_, ?_⟩
      · subst hB_5
        replace T := T0
        clear T0 T1
        refine cnd_imp T (fun T => ?_) (fun T => ?_)
        · refine callX_sy (T _ (Hp.nil _)) (fun _ _ ⟨_, p, _⟩ => p.fr) alln ?_
          rintro v hv3 ⟨r, PP, rfl, T⟩
          have Y : Sy _ _ hv3 [_] := Y.gr PP.fr
          clear PP
          refine ⟨r, rfl, ?_⟩
          obtain ⟨q_4, T⟩ := T
          refine ⟨q_4, ?_⟩
          obtain ⟨q_3, T⟩ := T
          refine ⟨q_3, ?_⟩
          obtain ⟨q_2, T⟩ := T
          refine ⟨q_2, ?_⟩
          exact ⟨_, _, _, _, rfl, Y.pick [0] rfl, T⟩
        · obtain ⟨Jv4, T0, T1⟩ := T
          obtain ⟨B_6, hB_6, _⟩ := Y.cut [] [0] rfl
          refine ⟨fun lz h' => ∃ (p : Int) (min : Int) (max : Int) (odd : Int), lz = [.int .i64 p, .int .u64 min, .int .u64 max, .int .i64 odd] ∧ Sy h [] h' ([] ++ B_6) ∧ Jv4 p min max odd, ?_, ?_⟩
          · subst hB_6
            replace T := T0
            clear T0 T1
            refine cnd_imp T (fun T => ?_) (fun T => ?_)
            · refine callX_sy (T _ (Hp.nil _)) (fun _ _ ⟨_, p, _⟩ => p.fr) alln ?_
              rintro v2 hv4 ⟨r2, PP, rfl, T⟩
              have Y : Sy _ _ hv4 [_] := Y.gr PP.fr
              clear PP
              refine ⟨r2, rfl, ?_⟩
              obtain ⟨q_7, T⟩ := T
              refine ⟨q_7, ?_⟩
              obtain ⟨q_6, T⟩ := T
              refine ⟨q_6, ?_⟩
              obtain ⟨q_5, T⟩ := T
              refine ⟨q_5, ?_⟩
              exact ⟨_, _, _, _, rfl, Y.pick [0] rfl, T⟩
            · refine callX_sy (T _ (Hp.nil _)) (fun _ _ ⟨_, p, _⟩ => p.fr) alln ?_
              rintro v3 hv5 ⟨r3, PP, rfl, T⟩
              have Y : Sy _ _ hv5 [_] := Y.gr PP.fr
              clear PP
              refine ⟨r3, rfl, ?_⟩
              obtain ⟨q_10, T⟩ := T
              refine ⟨q_10, ?_⟩
              obtain ⟨q_9, T⟩ := T
              refine ⟨q_9, ?_⟩
              obtain ⟨q_8, T⟩ := T
              refine ⟨q_8, ?_⟩
              exact ⟨_, _, _, _, rfl, Y.pick [0] rfl, T⟩
          · subst hB_6
            clear T0 Y
            rintro p min max odd hv6 ⟨p, min, max, odd, e, Y, T⟩
            cases e
            replace T := T1 p min max odd T
            have Y : Sy _ _ _ [_] := Y
            exact ⟨_, _, _, _, rfl, Y.pick [0] rfl, T⟩
      · subst hB_5
        clear T0 Y
        rintro p2 min2 max2 odd2 hv7 ⟨p2, min2, max2, odd2, e, Y, T⟩
        cases e
        replace T := T1 p2 min2 max2 odd2 T
        have Y : Sy _ _ _ [_] := Y
        exact hK _ _ _ _ _ ⟨Y.pick [0] rfl, T⟩
    · obtain ⟨Jv5, T0, T1⟩ := T
      obtain ⟨B_7, hB_7, _⟩ := Y.cut [] [0] rfl
      refine ⟨fun lz h' => ∃ (p3 : Int) (min3 : Int) (max3 : Int) (odd3 : Int), lz = [.int .i64 p3, .int .u64 min3, .int .u64 max3, .int .i64 odd3] ∧ Sy h [] h' ([] ++ B_7) ∧ Jv5 p3 min3 max3 odd3, ?_, ?_⟩
      · subst hB_7
        replace T := T0
        clear T0 T1
        refine cnd_imp T (fun T => ?_) (fun T => ?_)
        · refine callX_sy (T _ (Hp.nil _)) (fun _ _ ⟨_, p, _⟩ => p.fr) alln ?_
          rintro v4 hv8 ⟨r4, PP, rfl, T⟩
          have Y : Sy _ _ hv8 [_] := Y.gr PP.fr
          clear PP
          refine ⟨r4, rfl, ?_⟩
          obtain ⟨q_13, T⟩ := T
          refine ⟨q_13, ?_⟩
          obtain ⟨q_12, T⟩ := T
          refine ⟨q_12, ?_⟩
          obtain ⟨q_11, T⟩ := T
          refine ⟨q_11, ?_⟩
          exact ⟨_, _, _, _, rfl, Y.pick [0] rfl, T⟩
        · refine callX_sy (T _ (Hp.nil _)) (fun _ _ ⟨_, p, _⟩ => p.fr) alln ?_
          rintro v5 hv9 ⟨r5, PP, rfl, T⟩
          have Y : Sy _ _ hv9 [_] := Y.gr PP.fr
          clear PP
          refine ⟨r5, rfl, ?_⟩
          obtain ⟨q_16, T⟩ := T
          refine ⟨q_16, ?_⟩
          obtain ⟨q_15, T⟩ := T
          refine ⟨q_15, ?_⟩
          obtain ⟨q_14, T⟩ := T
          refine ⟨q_14, ?_⟩
          exact ⟨_, _, _, _, rfl, Y.pick [0] rfl, T⟩
      · subst hB_7
        clear T0 Y
        rintro p3 min3 max3 odd3 hv10 ⟨p3, min3, max3, odd3, e, Y, T⟩
        cases e
        replace T := T1 p3 min3 max3 odd3 T
        have Y : Sy _ _ _ [_] := Y
        exact hK _ _ _ _ _ ⟨Y.pick [0] rfl, T⟩
/-- internal/strconv.setDigits -/
def S66 (sA : Option Addr) (sL sC : Nat) (d : Int) (p : Int) (nd : Int) (h : Heap) (R : Value → Heap → Prop) : Prop :=
  ∃ Jv : List Value → Heap → Prop,
  ( cnd (decide (nd ≤ ((sL : Nat) : Int)))
   (0 ≤ nd ∧ nd ≤ (sC : Nat) ∧ callX Tryz.prog 103 #[.slice (if sC = 0 then sA else Option.map (fun addr => Addr.add addr (0 * 1)) sA) ((Int.toNat nd) - 0) (sC - 0), .int .u64 d] h [] fun v hv =>
   v = .tuple #[] ∧
   ∃ (Iv : List Value → Heap → Prop) (m : List Value → Heap → Nat), Iv [.int .i64 nd] hv ∧
   ∀ nd2 : Int, ∀ hv2, Iv [.int .i64 nd2] hv2 →
   cnd (decide (nd2 > (0 : Int)))
    (∃ b o, sA = some ⟨b, o, none⟩ ∧ 0 ≤ (IntKind.i64.wrap (nd2 - (1 : Int))) ∧ (IntKind.i64.wrap (nd2 - (1 : Int))) < (sL : Nat) ∧ ∃ x : Int, hcell hv2 b (o + (Int.toNat (IntKind.i64.wrap (nd2 - (1 : Int)))) * 1) = some (.int .u8 x) ∧ cnd (x == (48 : Int))
     (Iv [.int .i64 (IntKind.i64.wrap (nd2 - (1 : Int)))] hv2 ∧ m [.int .i64 (IntKind.i64.wrap (nd2 - (1 : Int)))] hv2 < m [.int .i64 nd2] hv2)
     (Jv [.int .i64 nd2, .int .i64 (IntKind.i64.wrap (nd + p))] hv2))
    (Jv [.int .i64 nd2, .int .i64 (IntKind.i64.wrap (nd + p))] hv2))
   (Jv [.int .i64 nd, .int .i64 0] h)) ∧
  ∀ nd3 : Int, ∀ dp : Int, ∀ hv3, Jv [.int .i64 nd3, .int .i64 dp] hv3 →
  R (.tuple #[.int .i64 dp, .int .i64 nd3]) hv3
theorem calls66 {h : Heap} {R : Value → Heap → Prop} (sA : Option Addr) (sL sC : Nat) (d : Int) (p : Int) (nd : Int) (H : S66 sA sL sC d p nd h R) : CallsH Tryz.prog 66 #[.slice sA sL sC, .int .u64 d, .int .i64 p, .int .i64 nd] h R := by
  have e : S66 sA sL sC d p nd h R = FX (envX [] 36) { loops := [(0, ⟨[0, 8], [3], [], []⟩)], joins := [(13, ⟨[], [3, 8], [], []⟩)], blocks := [], draws := [] } Tryz.f66 (Tryz.f66.body.getD .skip) [.slice sA sL sC, .int .u64 d, .int .i64 p, .int .i64 nd] h R := by kernel_rfl
  exact calls_of_FX (envX_ok _ _) Tryz.func66 (by kernel_rfl) (by kernel_rfl) (by kernel_rfl) (e ▸ H)
/-- internal/strconv.setDigits -/
def Ok66 (sV : List Int) (d : Int) (p : Int) (nd : Int) (R : List Int → Int → Int → Prop) : Prop :=
  ∀ (h : Heap) (sA : Option Addr) (sL sC sT : Nat), Hp h [Ck.sl (eK .u8) sT sA sL sC sV] → CallsH Tryz.prog 66 #[.slice sA sL sC, .int .u64 d, .int .i64 p, .int .i64 nd] h fun v h' => ∃ (sV1 : List Int) (raV : Int) (rbV : Int), Sy h (owns [Ck.sl (eK .u8) sT sA sL sC sV]) h' [Ck.sl (eK .u8) sT sA sL sC sV1] ∧ v = .tuple #[.int .i64 raV, .int .i64 rbV] ∧ R sV1 raV rbV
theorem Ok66.mono {sV d p nd} {R R' : List Int → Int → Int → Prop} (H : Ok66 sV d p nd R) (kz : ∀ sV1 raV rbV, R sV1 raV rbV → R' sV1 raV rbV) : Ok66 sV d p nd R' :=
  fun h sA sL sC sT hp => (H h sA sL sC sT hp).mono fun _ _ ⟨sV1, raV, rbV, P, e, q⟩ => ⟨sV1, raV, rbV, P, e, kz _ _ _ q⟩
/-- internal/strconv.fmtEFG -/
def S63 (dstA : Option Addr) (dstL dstC : Nat) (neg : Bool) (sA : Option Addr) (sL sC : Nat) (dp : Int) (nd : Int) (prec : Int) (fmt : Int) (shortest : Bool) (h : Heap) (R : Value → Heap → Prop) : Prop :=
  let K3 := fun (prec11 : Int) (fmt5 : Int) (hv16 : Heap) =>
   (let K4 := fun (x : Bool) (hv17 : Heap) =>
    (cnd x
     (∃ Jv14 : List Value → Heap → Prop,
     ( cnd neg
      (let hv18 : Heap := hv17.push (.cells #[.int .u8 45] 5)
      ∃ old, Ownd hv18 5 1 dstA dstL dstC old ∧ (∀ b ∈ ([hv17.size] : List Nat), b ∉ blkOf dstA) ∧ (dstL + 1) * 1 ≤ 140737488355328 ∧ (dstL + 1) ≤ maxLen ∧
      ∀ sA2 sC2 hv19, Ownd hv19 5 1 sA2 (dstL + 1) sC2 (old ++ [.int .u8 45]) → Fr (blkOf dstA) hv18 hv19 → ((sA2 = dstA ∧ sC2 = dstC) ∨ ∃ g, sA2 = some ⟨g, 0, none⟩ ∧ hv18.size ≤ g) → (dstC < (dstL + 1) → Fr [] hv18 hv19) →
      Jv14 [.slice sA2 (dstL + 1) sC2] hv19)
      (Jv14 [.slice dstA dstL dstC] hv17)) ∧
     ∀ (dstA2 : Option Addr) (dstL2 dstC2 : Nat), ∀ hv20, Jv14 [.slice dstA2 dstL2 dstC2] hv20 →
     ∃ Jv15 : List Value → Heap → Prop,
     ( cnd (nd != (0 : Int))
      (∃ b o, sA = some ⟨b, o, none⟩ ∧ 0 ≤ (0 : Int) ∧ (0 : Int) < (sL : Nat) ∧ ∃ x2 : Int, hcell hv20 b (o + (Int.toNat (0 : Int)) * 1) = some (.int .u8 x2) ∧ Jv15 [.int .u8 x2] hv20)
      (Jv15 [.int .u8 48] hv20)) ∧
     ∀ ch : Int, ∀ hv21, Jv15 [.int .u8 ch] hv21 →
     let hv22 : Heap := hv21.push (.cells #[.int .u8 ch] 5)
     ∃ old2, Ownd hv22 5 1 dstA2 dstL2 dstC2 old2 ∧ (∀ b ∈ ([hv21.size] : List Nat), b ∉ blkOf dstA2) ∧ (dstL2 + 1) * 1 ≤ 140737488355328 ∧ (dstL2 + 1) ≤ maxLen ∧
     ∀ sA3 sC3 hv23, Ownd hv23 5 1 sA3 (dstL2 + 1) sC3 (old2 ++ [.int .u8 ch]) → Fr (blkOf dstA2) hv22 hv23 → ((sA3 = dstA2 ∧ sC3 = dstC2) ∨ ∃ g, sA3 = some ⟨g, 0, none⟩ ∧ hv22.size ≤ g) → (dstC2 < (dstL2 + 1) → Fr [] hv22 hv23) →
     ∃ Jv16 : List Value → Heap → Prop,
     ( cnd (decide (prec11 > (0 : Int)))
      (let hv24 : Heap := hv23.push (.cells #[.int .u8 46] 5)
      ∃ old3, Ownd hv24 5 1 sA3 (dstL2 + 1) sC3 old3 ∧ (∀ b ∈ ([hv23.size, hv21.size] : List Nat), b ∉ blkOf sA3) ∧ ((dstL2 + 1) + 1) * 1 ≤ 140737488355328 ∧ ((dstL2 + 1) + 1) ≤ maxLen ∧
      ∀ sA4 sC4 hv25, Ownd hv25 5 1 sA4 ((dstL2 + 1) + 1) sC4 (old3 ++ [.int .u8 46]) → Fr (blkOf sA3) hv24 hv25 → ((sA4 = sA3 ∧ sC4 = sC3) ∨ ∃ g, sA4 = some ⟨g, 0, none⟩ ∧ hv24.size ≤ g) → (sC3 < ((dstL2 + 1) + 1) → Fr [] hv24 hv25) →
      ∃ Jv17 : List Value → Heap → Prop,
      ( cnd (decide ((1 : Int) < (if (IntKind.i64.wrap (prec11 + (1 : Int))) < nd then (IntKind.i64.wrap (prec11 + (1 : Int))) else nd)))
        (0 ≤ (if (IntKind.i64.wrap (prec11 + (1 : Int))) < nd then (IntKind.i64.wrap (prec11 + (1 : Int))) else nd) ∧ (if (IntKind.i64.wrap (prec11 + (1 : Int))) < nd then (IntKind.i64.wrap (prec11 + (1 : Int))) else nd) ≤ (sC : Nat) ∧ 0 ≤ (1 : Int) ∧ (1 : Int) ≤ ((Int.toNat (if (IntKind.i64.wrap (prec11 + (1 : Int))) < nd then (IntKind.i64.wrap (prec11 + (1 : Int))) else nd)) : Nat) ∧ ∃ xs : List Value, Reads hv25 1 (if sC = (Int.toNat (1 : Int)) then sA else Option.map (fun addr => Addr.add addr ((Int.toNat (1 : Int)) * 1)) sA) ((Int.toNat (if (IntKind.i64.wrap (prec11 + (1 : Int))) < nd then (IntKind.i64.wrap (prec11 + (1 : Int))) else nd)) - (Int.toNat (1 : Int))) xs ∧ ((if sC = (Int.toNat (1 : Int)) then sA else Option.map (fun addr => Addr.add addr ((Int.toNat (1 : Int)) * 1)) sA) = none → (sC - (Int.toNat (1 : Int))) = 0) ∧ (∀ v ∈ xs, v.oneCell' = true) ∧ ∃ old4, Ownd hv25 5 1 sA4 ((dstL2 + 1) + 1) sC4 old4 ∧ (∀ b ∈ ([hv23.size, hv21.size] : List Nat), b ∉ blkOf sA4) ∧ (((dstL2 + 1) + 1) + ((Int.toNat (if (IntKind.i64.wrap (prec11 + (1 : Int))) < nd then (IntKind.i64.wrap (prec11 + (1 : Int))) else nd)) - (Int.toNat (1 : Int)))) * 1 ≤ 140737488355328 ∧ (((dstL2 + 1) + 1) + ((Int.toNat (if (IntKind.i64.wrap (prec11 + (1 : Int))) < nd then (IntKind.i64.wrap (prec11 + (1 : Int))) else nd)) - (Int.toNat (1 : Int)))) ≤ maxLen ∧
        ∀ sA5 sC5 hv26, Ownd hv26 5 1 sA5 (((dstL2 + 1) + 1) + ((Int.toNat (if (IntKind.i64.wrap (prec11 + (1 : Int))) < nd then (IntKind.i64.wrap (prec11 + (1 : Int))) else nd)) - (Int.toNat (1 : Int)))) sC5 (old4 ++ xs) → Fr (blkOf sA4) hv25 hv26 → ((sA5 = sA4 ∧ sC5 = sC4) ∨ ∃ g, sA5 = some ⟨g, 0, none⟩ ∧ hv25.size ≤ g) → (sC4 < (((dstL2 + 1) + 1) + ((Int.toNat (if (IntKind.i64.wrap (prec11 + (1 : Int))) < nd then (IntKind.i64.wrap (prec11 + (1 : Int))) else nd)) - (Int.toNat (1 : Int)))) → Fr [] hv25 hv26) →
        Jv17 [.slice sA5 (((dstL2 + 1) + 1) + ((Int.toNat (if (IntKind.i64.wrap (prec11 + (1 : Int))) < nd then (IntKind.i64.wrap (prec11 + (1 : Int))) else nd)) - (Int.toNat (1 : Int)))) sC5, .int .i64 (if (IntKind.i64.wrap (prec11 + (1 : Int))) < nd then (IntKind.i64.wrap (prec11 + (1 : Int))) else nd)] hv26)
        (Jv17 [.slice sA4 ((dstL2 + 1) + 1) sC4, .int .i64 1] hv25)) ∧
      ∀ (dstA3 : Option Addr) (dstL3 dstC3 : Nat), ∀ i : Int, ∀ hv27, Jv17 [.slice dstA3 dstL3 dstC3, .int .i64 i] hv27 →
      ∃ (Iv : List Value → Heap → Prop) (m : List Value → Heap → Nat), Iv [.slice dstA3 dstL3 dstC3, .int .i64 0] hv27 ∧
      ∀ (dstA4 : Option Addr) (dstL4 dstC4 : Nat), ∀ x3 : Int, ∀ hv28, Iv [.slice dstA4 dstL4 dstC4, .int .i64 x3] hv28 →
      cnd (decide (x3 < (IntKind.i64.wrap ((IntKind.i64.wrap (prec11 + (1 : Int))) - i))))
       (let hv29 : Heap := hv28.push (.cells #[.int .u8 48] 5)
       ∃ old5, Ownd hv29 5 1 dstA4 dstL4 dstC4 old5 ∧ (∀ b ∈ ([hv28.size] : List Nat), b ∉ blkOf dstA4) ∧ (dstL4 + 1) * 1 ≤ 140737488355328 ∧ (dstL4 + 1) ≤ maxLen ∧
       ∀ sA6 sC6 hv30, Ownd hv30 5 1 sA6 (dstL4 + 1) sC6 (old5 ++ [.int .u8 48]) → Fr (blkOf dstA4) hv29 hv30 → ((sA6 = dstA4 ∧ sC6 = dstC4) ∨ ∃ g, sA6 = some ⟨g, 0, none⟩ ∧ hv29.size ≤ g) → (dstC4 < (dstL4 + 1) → Fr [] hv29 hv30) →
       Iv [.slice sA6 (dstL4 + 1) sC6, .int .i64 (IntKind.i64.wrap (x3 + (1 : Int)))] hv30 ∧ m [.slice sA6 (dstL4 + 1) sC6, .int .i64 (IntKind.i64.wrap (x3 + (1 : Int)))] hv30 < m [.slice dstA4 dstL4 dstC4, .int .i64 x3] hv28)
       (Jv16 [.slice dstA4 dstL4 dstC4] hv28))
      (Jv16 [.slice sA3 (dstL2 + 1) sC3] hv23)) ∧
     ∀ (dstA5 : Option Addr) (dstL5 dstC5 : Nat), ∀ hv31, Jv16 [.slice dstA5 dstL5 dstC5] hv31 →
     let hv32 : Heap := hv31.push (.cells #[.int .u8 fmt5] 5)
     ∃ old6, Ownd hv32 5 1 dstA5 dstL5 dstC5 old6 ∧ (∀ b ∈ ([hv31.size] : List Nat), b ∉ blkOf dstA5) ∧ (dstL5 + 1) * 1 ≤ 140737488355328 ∧ (dstL5 + 1) ≤ maxLen ∧
     ∀ sA7 sC7 hv33, Ownd hv33 5 1 sA7 (dstL5 + 1) sC7 (old6 ++ [.int .u8 fmt5]) → Fr (blkOf dstA5) hv32 hv33 → ((sA7 = dstA5 ∧ sC7 = dstC5) ∨ ∃ g, sA7 = some ⟨g, 0, none⟩ ∧ hv32.size ≤ g) → (dstC5 < (dstL5 + 1) → Fr [] hv32 hv33) →
     ∃ Jv18 : List Value → Heap → Prop,
     ( cnd (nd == (0 : Int))
      (Jv18 [.int .i64 0] hv33)
      (Jv18 [.int .i64 (IntKind.i64.wrap (dp - (1 : Int)))] hv33)) ∧
     ∀ exp : Int, ∀ hv34, Jv18 [.int .i64 exp] hv34 →
     ∃ Jv19 : List Value → Heap → Prop,
     ( cnd (decide (exp < (0 : Int)))
      (Jv19 [.int .u8 45, .int .i64 (IntKind.i64.wrap (0 - exp))] hv34)
      (Jv19 [.int .u8 43, .int .i64 exp] hv34)) ∧
     ∀ ch2 : Int, ∀ exp2 : Int, ∀ hv35, Jv19 [.int .u8 ch2, .int .i64 exp2] hv35 →
     let hv36 : Heap := hv35.push (.cells #[.int .u8 ch2] 5)
     ∃ old7, Ownd hv36 5 1 sA7 (dstL5 + 1) sC7 old7 ∧ (∀ b ∈ ([hv35.size] : List Nat), b ∉ blkOf sA7) ∧ ((dstL5 + 1) + 1) * 1 ≤ 140737488355328 ∧ ((dstL5 + 1) + 1) ≤ maxLen ∧
     ∀ sA8 sC8 hv37, Ownd hv37 5 1 sA8 ((dstL5 + 1) + 1) sC8 (old7 ++ [.int .u8 ch2]) → Fr (blkOf sA7) hv36 hv37 → ((sA8 = sA7 ∧ sC8 = sC7) ∨ ∃ g, sA8 = some ⟨g, 0, none⟩ ∧ hv36.size ≤ g) → (sC7 < ((dstL5 + 1) + 1) → Fr [] hv36 hv37) →
     ∃ Jv20 : List Value → Heap → Prop,
     ( cnd (decide (exp2 < (10 : Int)))
      (let hv38 : Heap := hv37.push (.cells #[.int .u8 48, .int .u8 (IntKind.u8.wrap ((IntKind.u8.wrap exp2) + (48 : Int)))] 5)
      ∃ old8, Ownd hv38 5 1 sA8 ((dstL5 + 1) + 1) sC8 old8 ∧ (∀ b ∈ ([hv37.size, hv35.size] : List Nat), b ∉ blkOf sA8) ∧ (((dstL5 + 1) + 1) + 2) * 1 ≤ 140737488355328 ∧ (((dstL5 + 1) + 1) + 2) ≤ maxLen ∧
      ∀ sA9 sC9 hv39, Ownd hv39 5 1 sA9 (((dstL5 + 1) + 1) + 2) sC9 (old8 ++ [.int .u8 48, .int .u8 (IntKind.u8.wrap ((IntKind.u8.wrap exp2) + (48 : Int)))]) → Fr (blkOf sA8) hv38 hv39 → ((sA9 = sA8 ∧ sC9 = sC8) ∨ ∃ g, sA9 = some ⟨g, 0, none⟩ ∧ hv38.size ≤ g) → (sC8 < (((dstL5 + 1) + 1) + 2) → Fr [] hv38 hv39) →
      Jv20 [.slice sA9 (((dstL5 + 1) + 1) + 2) sC9] hv39)
      (∃ Jv21 : List Value → Heap → Prop,
      ( cnd (decide (exp2 < (100 : Int)))
        ((10 : Int) ≠ 0 ∧ (10 : Int) ≠ 0 ∧ let hv40 : Heap := hv37.push (.cells #[.int .u8 (IntKind.u8.wrap ((IntKind.u8.wrap (IntKind.i64.wrap (Int.tdiv exp2 (10 : Int)))) + (48 : Int))), .int .u8 (IntKind.u8.wrap ((IntKind.u8.wrap (Int.tmod exp2 (10 : Int))) + (48 : Int)))] 5)
        ∃ old9, Ownd hv40 5 1 sA8 ((dstL5 + 1) + 1) sC8 old9 ∧ (∀ b ∈ ([hv37.size, hv35.size] : List Nat), b ∉ blkOf sA8) ∧ (((dstL5 + 1) + 1) + 2) * 1 ≤ 140737488355328 ∧ (((dstL5 + 1) + 1) + 2) ≤ maxLen ∧
        ∀ sA10 sC10 hv41, Ownd hv41 5 1 sA10 (((dstL5 + 1) + 1) + 2) sC10 (old9 ++ [.int .u8 (IntKind.u8.wrap ((IntKind.u8.wrap (IntKind.i64.wrap (Int.tdiv exp2 (10 : Int)))) + (48 : Int))), .int .u8 (IntKind.u8.wrap ((IntKind.u8.wrap (Int.tmod exp2 (10 : Int))) + (48 : Int)))]) → Fr (blkOf sA8) hv40 hv41 → ((sA10 = sA8 ∧ sC10 = sC8) ∨ ∃ g, sA10 = some ⟨g, 0, none⟩ ∧ hv40.size ≤ g) → (sC8 < (((dstL5 + 1) + 1) + 2) → Fr [] hv40 hv41) →
        Jv21 [.slice sA10 (((dstL5 + 1) + 1) + 2) sC10] hv41)
        ((100 : Int) ≠ 0 ∧ (10 : Int) ≠ 0 ∧ (10 : Int) ≠ 0 ∧ (10 : Int) ≠ 0 ∧ let hv42 : Heap := hv37.push (.cells #[.int .u8 (IntKind.u8.wrap ((IntKind.u8.wrap (IntKind.i64.wrap (Int.tdiv exp2 (100 : Int)))) + (48 : Int))), .int .u8 (IntKind.u8.wrap ((Int.tmod (IntKind.u8.wrap (IntKind.i64.wrap (Int.tdiv exp2 (10 : Int)))) (10 : Int)) + (48 : Int))), .int .u8 (IntKind.u8.wrap ((IntKind.u8.wrap (Int.tmod exp2 (10 : Int))) + (48 : Int)))] 5)
        ∃ old10, Ownd hv42 5 1 sA8 ((dstL5 + 1) + 1) sC8 old10 ∧ (∀ b ∈ ([hv37.size, hv35.size] : List Nat), b ∉ blkOf sA8) ∧ (((dstL5 + 1) + 1) + 3) * 1 ≤ 140737488355328 ∧ (((dstL5 + 1) + 1) + 3) ≤ maxLen ∧
        ∀ sA11 sC11 hv43, Ownd hv43 5 1 sA11 (((dstL5 + 1) + 1) + 3) sC11 (old10 ++ [.int .u8 (IntKind.u8.wrap ((IntKind.u8.wrap (IntKind.i64.wrap (Int.tdiv exp2 (100 : Int)))) + (48 : Int))), .int .u8 (IntKind.u8.wrap ((Int.tmod (IntKind.u8.wrap (IntKind.i64.wrap (Int.tdiv exp2 (10 : Int)))) (10 : Int)) + (48 : Int))), .int .u8 (IntKind.u8.wrap ((IntKind.u8.wrap (Int.tmod exp2 (10 : Int))) + (48 : Int)))]) → Fr (blkOf sA8) hv42 hv43 → ((sA11 = sA8 ∧ sC11 = sC8) ∨ ∃ g, sA11 = some ⟨g, 0, none⟩ ∧ hv42.size ≤ g) → (sC8 < (((dstL5 + 1) + 1) + 3) → Fr [] hv42 hv43) →
        Jv21 [.slice sA11 (((dstL5 + 1) + 1) + 3) sC11] hv43)) ∧
      ∀ (dstA6 : Option Addr) (dstL6 dstC6 : Nat), ∀ hv44, Jv21 [.slice dstA6 dstL6 dstC6] hv44 →
      Jv20 [.slice dstA6 dstL6 dstC6] hv44)) ∧
     ∀ (dstA7 : Option Addr) (dstL7 dstC7 : Nat), ∀ hv45, Jv20 [.slice dstA7 dstL7 dstC7] hv45 →
     R (.slice dstA7 dstL7 dstC7) hv45)
     (cnd (fmt5 == (102 : Int))
      (∃ Jv22 : List Value → Heap → Prop,
      ( cnd neg
       (let hv46 : Heap := hv17.push (.cells #[.int .u8 45] 5)
       ∃ old11, Ownd hv46 5 1 dstA dstL dstC old11 ∧ (∀ b ∈ ([hv17.size] : List Nat), b ∉ blkOf dstA) ∧ (dstL + 1) * 1 ≤ 140737488355328 ∧ (dstL + 1) ≤ maxLen ∧
       ∀ sA12 sC12 hv47, Ownd hv47 5 1 sA12 (dstL + 1) sC12 (old11 ++ [.int .u8 45]) → Fr (blkOf dstA) hv46 hv47 → ((sA12 = dstA ∧ sC12 = dstC) ∨ ∃ g, sA12 = some ⟨g, 0, none⟩ ∧ hv46.size ≤ g) → (dstC < (dstL + 1) → Fr [] hv46 hv47) →
       Jv22 [.slice sA12 (dstL + 1) sC12] hv47)
       (Jv22 [.slice dstA dstL dstC] hv17)) ∧
      ∀ (dstA8 : Option Addr) (dstL8 dstC8 : Nat), ∀ hv48, Jv22 [.slice dstA8 dstL8 dstC8] hv48 →
      ∃ Jv23 : List Value → Heap → Prop,
      ( cnd (decide (dp > (0 : Int)))
       (0 ≤ (if dp < nd then dp else nd) ∧ (if dp < nd then dp else nd) ≤ (sC : Nat) ∧ ∃ (Iv2 : List Value → Heap → Prop) (m2 : List Value → Heap → Nat), Iv2 [.slice dstA8 dstL8 dstC8, .int .i64 0] hv48 ∧
       ∀ (dstA9 : Option Addr) (dstL9 dstC9 : Nat), ∀ x4 : Int, ∀ hv49, Iv2 [.slice dstA9 dstL9 dstC9, .int .i64 x4] hv49 →
       cnd (decide (x4 < ((((Int.toNat (if dp < nd then dp else nd)) - 0) : Nat) : Int)))
        (∃ b2 o2, (if sC = 0 then sA else Option.map (fun addr => Addr.add addr (0 * 1)) sA) = some ⟨b2, o2, none⟩ ∧ 0 ≤ x4 ∧ x4 < (((Int.toNat (if dp < nd then dp else nd)) - 0) : Nat) ∧ ∃ x5 : Int, hcell hv49 b2 (o2 + (Int.toNat x4) * 1) = some (.int .u8 x5) ∧ let hv50 : Heap := hv49.push (.cells #[.int .u8 x5] 5)
        ∃ old12, Ownd hv50 5 1 dstA9 dstL9 dstC9 old12 ∧ (∀ b ∈ ([hv49.size] : List Nat), b ∉ blkOf dstA9) ∧ (dstL9 + 1) * 1 ≤ 140737488355328 ∧ (dstL9 + 1) ≤ maxLen ∧
        ∀ sA13 sC13 hv51, Ownd hv51 5 1 sA13 (dstL9 + 1) sC13 (old12 ++ [.int .u8 x5]) → Fr (blkOf dstA9) hv50 hv51 → ((sA13 = dstA9 ∧ sC13 = dstC9) ∨ ∃ g, sA13 = some ⟨g, 0, none⟩ ∧ hv50.size ≤ g) → (dstC9 < (dstL9 + 1) → Fr [] hv50 hv51) →
        Iv2 [.slice sA13 (dstL9 + 1) sC13, .int .i64 (IntKind.i64.wrap (x4 + (1 : Int)))] hv51 ∧ m2 [.slice sA13 (dstL9 + 1) sC13, .int .i64 (IntKind.i64.wrap (x4 + (1 : Int)))] hv51 < m2 [.slice dstA9 dstL9 dstC9, .int .i64 x4] hv49)
        (∃ (Iv3 : List Value → Heap → Prop) (m3 : List Value → Heap → Nat), Iv3 [.slice dstA9 dstL9 dstC9, .int .i64 0] hv49 ∧
        ∀ (dstA10 : Option Addr) (dstL10 dstC10 : Nat), ∀ x6 : Int, ∀ hv52, Iv3 [.slice dstA10 dstL10 dstC10, .int .i64 x6] hv52 →
        cnd (decide (x6 < (IntKind.i64.wrap (dp - (if dp < nd then dp else nd)))))
         (let hv53 : Heap := hv52.push (.cells #[.int .u8 48] 5)
         ∃ old13, Ownd hv53 5 1 dstA10 dstL10 dstC10 old13 ∧ (∀ b ∈ ([hv52.size] : List Nat), b ∉ blkOf dstA10) ∧ (dstL10 + 1) * 1 ≤ 140737488355328 ∧ (dstL10 + 1) ≤ maxLen ∧
         ∀ sA14 sC14 hv54, Ownd hv54 5 1 sA14 (dstL10 + 1) sC14 (old13 ++ [.int .u8 48]) → Fr (blkOf dstA10) hv53 hv54 → ((sA14 = dstA10 ∧ sC14 = dstC10) ∨ ∃ g, sA14 = some ⟨g, 0, none⟩ ∧ hv53.size ≤ g) → (dstC10 < (dstL10 + 1) → Fr [] hv53 hv54) →
         Iv3 [.slice sA14 (dstL10 + 1) sC14, .int .i64 (IntKind.i64.wrap (x6 + (1 : Int)))] hv54 ∧ m3 [.slice sA14 (dstL10 + 1) sC14, .int .i64 (IntKind.i64.wrap (x6 + (1 : Int)))] hv54 < m3 [.slice dstA10 dstL10 dstC10, .int .i64 x6] hv52)
         (Jv23 [.slice dstA10 dstL10 dstC10] hv52)))
       (let hv55 : Heap := hv48.push (.cells #[.int .u8 48] 5)
       ∃ old14, Ownd hv55 5 1 dstA8 dstL8 dstC8 old14 ∧ (∀ b ∈ ([hv48.size] : List Nat), b ∉ blkOf dstA8) ∧ (dstL8 + 1) * 1 ≤ 140737488355328 ∧ (dstL8 + 1) ≤ maxLen ∧
       ∀ sA15 sC15 hv56, Ownd hv56 5 1 sA15 (dstL8 + 1) sC15 (old14 ++ [.int .u8 48]) → Fr (blkOf dstA8) hv55 hv56 → ((sA15 = dstA8 ∧ sC15 = dstC8) ∨ ∃ g, sA15 = some ⟨g, 0, none⟩ ∧ hv55.size ≤ g) → (dstC8 < (dstL8 + 1) → Fr [] hv55 hv56) →
       Jv23 [.slice sA15 (dstL8 + 1) sC15] hv56)) ∧
      ∀ (dstA11 : Option Addr) (dstL11 dstC11 : Nat), ∀ hv57, Jv23 [.slice dstA11 dstL11 dstC11] hv57 →
      ∃ Jv24 : List Value → Heap → Prop,
      ( cnd (decide (prec11 > (0 : Int)))
       (let hv58 : Heap := hv57.push (.cells #[.int .u8 46] 5)
       ∃ old15, Ownd hv58 5 1 dstA11 dstL11 dstC11 old15 ∧ (∀ b ∈ ([hv57.size] : List Nat), b ∉ blkOf dstA11) ∧ (dstL11 + 1) * 1 ≤ 140737488355328 ∧ (dstL11 + 1) ≤ maxLen ∧
       ∀ sA16 sC16 hv59, Ownd hv59 5 1 sA16 (dstL11 + 1) sC16 (old15 ++ [.int .u8 46]) → Fr (blkOf dstA11) hv58 hv59 → ((sA16 = dstA11 ∧ sC16 = dstC11) ∨ ∃ g, sA16 = some ⟨g, 0, none⟩ ∧ hv58.size ≤ g) → (dstC11 < (dstL11 + 1) → Fr [] hv58 hv59) →
       ∃ (Iv4 : List Value → Heap → Prop) (m4 : List Value → Heap → Nat), Iv4 [.slice sA16 (dstL11 + 1) sC16, .int .i64 0] hv59 ∧
       ∀ (dstA12 : Option Addr) (dstL12 dstC12 : Nat), ∀ x7 : Int, ∀ hv60, Iv4 [.slice dstA12 dstL12 dstC12, .int .i64 x7] hv60 →
       cnd (decide (x7 < (if (if (IntKind.i64.wrap (0 - dp)) > (0 : Int) then (IntKind.i64.wrap (0 - dp)) else (0 : Int)) < prec11 then (if (IntKind.i64.wrap (0 - dp)) > (0 : Int) then (IntKind.i64.wrap (0 - dp)) else (0 : Int)) else prec11)))
        (let hv61 : Heap := hv60.push (.cells #[.int .u8 48] 5)
        ∃ old16, Ownd hv61 5 1 dstA12 dstL12 dstC12 old16 ∧ (∀ b ∈ ([hv60.size] : List Nat), b ∉ blkOf dstA12) ∧ (dstL12 + 1) * 1 ≤ 140737488355328 ∧ (dstL12 + 1) ≤ maxLen ∧
        ∀ sA17 sC17 hv62, Ownd hv62 5 1 sA17 (dstL12 + 1) sC17 (old16 ++ [.int .u8 48]) → Fr (blkOf dstA12) hv61 hv62 → ((sA17 = dstA12 ∧ sC17 = dstC12) ∨ ∃ g, sA17 = some ⟨g, 0, none⟩ ∧ hv61.size ≤ g) → (dstC12 < (dstL12 + 1) → Fr [] hv61 hv62) →
        Iv4 [.slice sA17 (dstL12 + 1) sC17, .int .i64 (IntKind.i64.wrap (x7 + (1 : Int)))] hv62 ∧ m4 [.slice sA17 (dstL12 + 1) sC17, .int .i64 (IntKind.i64.wrap (x7 + (1 : Int)))] hv62 < m4 [.slice dstA12 dstL12 dstC12, .int .i64 x7] hv60)
        (∃ (Iv5 : List Value → Heap → Prop) (m5 : List Value → Heap → Nat), Iv5 [.slice dstA12 dstL12 dstC12, .int .i64 0] hv60 ∧
        ∀ (dstA13 : Option Addr) (dstL13 dstC13 : Nat), ∀ x8 : Int, ∀ hv63, Iv5 [.slice dstA13 dstL13 dstC13, .int .i64 x8] hv63 →
        cnd (decide (x8 < (if (if (IntKind.i64.wrap (nd - (IntKind.i64.wrap (dp + (if (if (IntKind.i64.wrap (0 - dp)) > (0 : Int) then (IntKind.i64.wrap (0 - dp)) else (0 : Int)) < prec11 then (if (IntKind.i64.wrap (0 - dp)) > (0 : Int) then (IntKind.i64.wrap (0 - dp)) else (0 : Int)) else prec11))))) > (0 : Int) then (IntKind.i64.wrap (nd - (IntKind.i64.wrap (dp + (if (if (IntKind.i64.wrap (0 - dp)) > (0 : Int) then (IntKind.i64.wrap (0 - dp)) else (0 : Int)) < prec11 then (if (IntKind.i64.wrap (0 - dp)) > (0 : Int) then (IntKind.i64.wrap (0 - dp)) else (0 : Int)) else prec11))))) else (0 : Int)) < (IntKind.i64.wrap (prec11 - (if (if (IntKind.i64.wrap (0 - dp)) > (0 : Int) then (IntKind.i64.wrap (0 - dp)) else (0 : Int)) < prec11 then (if (IntKind.i64.wrap (0 - dp)) > (0 : Int) then (IntKind.i64.wrap (0 - dp)) else (0 : Int)) else prec11))) then (if (IntKind.i64.wrap (nd - (IntKind.i64.wrap (dp + (if (if (IntKind.i64.wrap (0 - dp)) > (0 : Int) then (IntKind.i64.wrap (0 - dp)) else (0 : Int)) < prec11 then (if (IntKind.i64.wrap (0 - dp)) > (0 : Int) then (IntKind.i64.wrap (0 - dp)) else (0 : Int)) else prec11))))) > (0 : Int) then (IntKind.i64.wrap (nd - (IntKind.i64.wrap (dp + (if (if (IntKind.i64.wrap (0 - dp)) > (0 : Int) then (IntKind.i64.wrap (0 - dp)) else (0 : Int)) < prec11 then (if (IntKind.i64.wrap (0 - dp)) > (0 : Int) then (IntKind.i64.wrap (0 - dp)) else (0 : Int)) else prec11))))) else (0 : Int)) else (IntKind.i64.wrap (prec11 - (if (if (IntKind.i64.wrap (0 - dp)) > (0 : Int) then (IntKind.i64.wrap (0 - dp)) else (0 : Int)) < prec11 then (if (IntKind.i64.wrap (0 - dp)) > (0 : Int) then (IntKind.i64.wrap (0 - dp)) else (0 : Int)) else prec11))))))
         (∃ b3 o3, sA = some ⟨b3, o3, none⟩ ∧ 0 ≤ (IntKind.i64.wrap ((IntKind.i64.wrap (dp + (if (if (IntKind.i64.wrap (0 - dp)) > (0 : Int) then (IntKind.i64.wrap (0 - dp)) else (0 : Int)) < prec11 then (if (IntKind.i64.wrap (0 - dp)) > (0 : Int) then (IntKind.i64.wrap (0 - dp)) else (0 : Int)) else prec11))) + x8)) ∧ (IntKind.i64.wrap ((IntKind.i64.wrap (dp + (if (if (IntKind.i64.wrap (0 - dp)) > (0 : Int) then (IntKind.i64.wrap (0 - dp)) else (0 : Int)) < prec11 then (if (IntKind.i64.wrap (0 - dp)) > (0 : Int) then (IntKind.i64.wrap (0 - dp)) else (0 : Int)) else prec11))) + x8)) < (sL : Nat) ∧ ∃ x9 : Int, hcell hv63 b3 (o3 + (Int.toNat (IntKind.i64.wrap ((IntKind.i64.wrap (dp + (if (if (IntKind.i64.wrap (0 - dp)) > (0 : Int) then (IntKind.i64.wrap (0 - dp)) else (0 : Int)) < prec11 then (if (IntKind.i64.wrap (0 - dp)) > (0 : Int) then (IntKind.i64.wrap (0 - dp)) else (0 : Int)) else prec11))) + x8))) * 1) = some (.int .u8 x9) ∧ let hv64 : Heap := hv63.push (.cells #[.int .u8 x9] 5)
         ∃ old17, Ownd hv64 5 1 dstA13 dstL13 dstC13 old17 ∧ (∀ b ∈ ([hv63.size] : List Nat), b ∉ blkOf dstA13) ∧ (dstL13 + 1) * 1 ≤ 140737488355328 ∧ (dstL13 + 1) ≤ maxLen ∧
         ∀ sA18 sC18 hv65, Ownd hv65 5 1 sA18 (dstL13 + 1) sC18 (old17 ++ [.int .u8 x9]) → Fr (blkOf dstA13) hv64 hv65 → ((sA18 = dstA13 ∧ sC18 = dstC13) ∨ ∃ g, sA18 = some ⟨g, 0, none⟩ ∧ hv64.size ≤ g) → (dstC13 < (dstL13 + 1) → Fr [] hv64 hv65) →
         Iv5 [.slice sA18 (dstL13 + 1) sC18, .int .i64 (IntKind.i64.wrap (x8 + (1 : Int)))] hv65 ∧ m5 [.slice sA18 (dstL13 + 1) sC18, .int .i64 (IntKind.i64.wrap (x8 + (1 : Int)))] hv65 < m5 [.slice dstA13 dstL13 dstC13, .int .i64 x8] hv63)
         (∃ (Iv6 : List Value → Heap → Prop) (m6 : List Value → Heap → Nat), Iv6 [.slice dstA13 dstL13 dstC13, .int .i64 0] hv63 ∧
         ∀ (dstA14 : Option Addr) (dstL14 dstC14 : Nat), ∀ x10 : Int, ∀ hv66, Iv6 [.slice dstA14 dstL14 dstC14, .int .i64 x10] hv66 →
         cnd (decide (x10 < (if (IntKind.i64.wrap ((IntKind.i64.wrap (prec11 - (if (if (IntKind.i64.wrap (0 - dp)) > (0 : Int) then (IntKind.i64.wrap (0 - dp)) else (0 : Int)) < prec11 then (if (IntKind.i64.wrap (0 - dp)) > (0 : Int) then (IntKind.i64.wrap (0 - dp)) else (0 : Int)) else prec11))) - (if (if (IntKind.i64.wrap (nd - (IntKind.i64.wrap (dp + (if (if (IntKind.i64.wrap (0 - dp)) > (0 : Int) then (IntKind.i64.wrap (0 - dp)) else (0 : Int)) < prec11 then (if (IntKind.i64.wrap (0 - dp)) > (0 : Int) then (IntKind.i64.wrap (0 - dp)) else (0 : Int)) else prec11))))) > (0 : Int) then (IntKind.i64.wrap (nd - (IntKind.i64.wrap (dp + (if (if (IntKind.i64.wrap (0 - dp)) > (0 : Int) then (IntKind.i64.wrap (0 - dp)) else (0 : Int)) < prec11 then (if (IntKind.i64.wrap (0 - dp)) > (0 : Int) then (IntKind.i64.wrap (0 - dp)) else (0 : Int)) else prec11))))) else (0 : Int)) < (IntKind.i64.wrap (prec11 - (if (if (IntKind.i64.wrap (0 - dp)) > (0 : Int) then (IntKind.i64.wrap (0 - dp)) else (0 : Int)) < prec11 then (if (IntKind.i64.wrap (0 - dp)) > (0 : Int) then (IntKind.i64.wrap (0 - dp)) else (0 : Int)) else prec11))) then (if (IntKind.i64.wrap (nd - (IntKind.i64.wrap (dp + (if (if (IntKind.i64.wrap (0 - dp)) > (0 : Int) then (IntKind.i64.wrap (0 - dp)) else (0 : Int)) < prec11 then (if (IntKind.i64.wrap (0 - dp)) > (0 : Int) then (IntKind.i64.wrap (0 - dp)) else (0 : Int)) else prec11))))) > (0 : Int) then (IntKind.i64.wrap (nd - (IntKind.i64.wrap (dp + (if (if (IntKind.i64.wrap (0 - dp)) > (0 : Int) then (IntKind.i64.wrap (0 - dp)) else (0 : Int)) < prec11 then (if (IntKind.i64.wrap (0 - dp)) > (0 : Int) then (IntKind.i64.wrap (0 - dp)) else (0 : Int)) else prec11))))) else (0 : Int)) else (IntKind.i64.wrap (prec11 - (if (if (IntKind.i64.wrap (0 - dp)) > (0 : Int) then (IntKind.i64.wrap (0 - dp)) else (0 : Int)) < prec11 then (if (IntKind.i64.wrap (0 - dp)) > (0 : Int) then (IntKind.i64.wrap (0 - dp)) else (0 : Int)) else prec11)))))) > (0 : Int) then (IntKind.i64.wrap ((IntKind.i64.wrap (prec11 - (if (if (IntKind.i64.wrap (0 - dp)) > (0 : Int) then (IntKind.i64.wrap (0 - dp)) else (0 : Int)) < prec11 then (if (IntKind.i64.wrap (0 - dp)) > (0 : Int) then (IntKind.i64.wrap (0 - dp)) else (0 : Int)) else prec11))) - (if (if (IntKind.i64.wrap (nd - (IntKind.i64.wrap (dp + (if (if (IntKind.i64.wrap (0 - dp)) > (0 : Int) then (IntKind.i64.wrap (0 - dp)) else (0 : Int)) < prec11 then (if (IntKind.i64.wrap (0 - dp)) > (0 : Int) then (IntKind.i64.wrap (0 - dp)) else (0 : Int)) else prec11))))) > (0 : Int) then (IntKind.i64.wrap (nd - (IntKind.i64.wrap (dp + (if (if (IntKind.i64.wrap (0 - dp)) > (0 : Int) then (IntKind.i64.wrap (0 - dp)) else (0 : Int)) < prec11 then (if (IntKind.i64.wrap (0 - dp)) > (0 : Int) then (IntKind.i64.wrap (0 - dp)) else (0 : Int)) else prec11))))) else (0 : Int)) < (IntKind.i64.wrap (prec11 - (if (if (IntKind.i64.wrap (0 - dp)) > (0 : Int) then (IntKind.i64.wrap (0 - dp)) else (0 : Int)) < prec11 then (if (IntKind.i64.wrap (0 - dp)) > (0 : Int) then (IntKind.i64.wrap (0 - dp)) else (0 : Int)) else prec11))) then (if (IntKind.i64.wrap (nd - (IntKind.i64.wrap (dp + (if (if (IntKind.i64.wrap (0 - dp)) > (0 : Int) then (IntKind.i64.wrap (0 - dp)) else (0 : Int)) < prec11 then (if (IntKind.i64.wrap (0 - dp)) > (0 : Int) then (IntKind.i64.wrap (0 - dp)) else (0 : Int)) else prec11))))) > (0 : Int) then (IntKind.i64.wrap (nd - (IntKind.i64.wrap (dp + (if (if (IntKind.i64.wrap (0 - dp)) > (0 : Int) then (IntKind.i64.wrap (0 - dp)) else (0 : Int)) < prec11 then (if (IntKind.i64.wrap (0 - dp)) > (0 : Int) then (IntKind.i64.wrap (0 - dp)) else (0 : Int)) else prec11))))) else (0 : Int)) else (IntKind.i64.wrap (prec11 - (if (if (IntKind.i64.wrap (0 - dp)) > (0 : Int) then (IntKind.i64.wrap (0 - dp)) else (0 : Int)) < prec11 then (if (IntKind.i64.wrap (0 - dp)) > (0 : Int) then (IntKind.i64.wrap (0 - dp)) else (0 : Int)) else prec11)))))) else (0 : Int))))
          (let hv67 : Heap := hv66.push (.cells #[.int .u8 48] 5)
          ∃ old18, Ownd hv67 5 1 dstA14 dstL14 dstC14 old18 ∧ (∀ b ∈ ([hv66.size] : List Nat), b ∉ blkOf dstA14) ∧ (dstL14 + 1) * 1 ≤ 140737488355328 ∧ (dstL14 + 1) ≤ maxLen ∧
          ∀ sA19 sC19 hv68, Ownd hv68 5 1 sA19 (dstL14 + 1) sC19 (old18 ++ [.int .u8 48]) → Fr (blkOf dstA14) hv67 hv68 → ((sA19 = dstA14 ∧ sC19 = dstC14) ∨ ∃ g, sA19 = some ⟨g, 0, none⟩ ∧ hv67.size ≤ g) → (dstC14 < (dstL14 + 1) → Fr [] hv67 hv68) →
          Iv6 [.slice sA19 (dstL14 + 1) sC19, .int .i64 (IntKind.i64.wrap (x10 + (1 : Int)))] hv68 ∧ m6 [.slice sA19 (dstL14 + 1) sC19, .int .i64 (IntKind.i64.wrap (x10 + (1 : Int)))] hv68 < m6 [.slice dstA14 dstL14 dstC14, .int .i64 x10] hv66)
          (Jv24 [.slice dstA14 dstL14 dstC14] hv66))))
       (Jv24 [.slice dstA11 dstL11 dstC11] hv57)) ∧
      ∀ (dstA15 : Option Addr) (dstL15 dstC15 : Nat), ∀ hv69, Jv24 [.slice dstA15 dstL15 dstC15] hv69 →
      R (.slice dstA15 dstL15 dstC15) hv69)
      (let hv70 : Heap := hv17.push (.cells #[.int .u8 37, .int .u8 fmt5] 5)
      ∃ old19, Ownd hv70 5 1 dstA dstL dstC old19 ∧ (∀ b ∈ ([hv17.size] : List Nat), b ∉ blkOf dstA) ∧ (dstL + 2) * 1 ≤ 140737488355328 ∧ (dstL + 2) ≤ maxLen ∧
      ∀ sA20 sC20 hv71, Ownd hv71 5 1 sA20 (dstL + 2) sC20 (old19 ++ [.int .u8 37, .int .u8 fmt5]) → Fr (blkOf dstA) hv70 hv71 → ((sA20 = dstA ∧ sC20 = dstC) ∨ ∃ g, sA20 = some ⟨g, 0, none⟩ ∧ hv70.size ≤ g) → (dstC < (dstL + 2) → Fr [] hv70 hv71) →
      R (.slice sA20 (dstL + 2) sC20) hv71)))
   cnd (fmt5 == (101 : Int))
    (K4 (fmt5 == (101 : Int)) hv16)
    (K4 (fmt5 == (69 : Int)) hv16))
  cnd (fmt == (103 : Int))
   (let K := fun (eprec2 : Int) (hv2 : Heap) =>
    (∃ Jv2 : List Value → Heap → Prop,
    ( cnd shortest
     (Jv2 [.int .i64 6] hv2)
     (Jv2 [.int .i64 eprec2] hv2)) ∧
    ∀ eprec3 : Int, ∀ hv3, Jv2 [.int .i64 eprec3] hv3 →
    cnd (decide ((IntKind.i64.wrap (dp - (1 : Int))) < ((-4) : Int)))
     (∃ Jv3 : List Value → Heap → Prop,
     ( cnd (decide (prec > nd))
      (Jv3 [.int .i64 nd] hv3)
      (Jv3 [.int .i64 prec] hv3)) ∧
     ∀ prec2 : Int, ∀ hv4, Jv3 [.int .i64 prec2] hv4 →
     K3 (IntKind.i64.wrap (prec2 - (1 : Int))) (IntKind.u8.wrap ((IntKind.u8.wrap (fmt + (101 : Int))) - (103 : Int))) hv4)
     (∃ Jv4 : List Value → Heap → Prop,
     ( cnd (decide ((IntKind.i64.wrap (dp - (1 : Int))) ≥ eprec3))
      (∃ Jv5 : List Value → Heap → Prop,
      ( cnd (decide (prec > nd))
        (Jv5 [.int .i64 nd] hv3)
        (Jv5 [.int .i64 prec] hv3)) ∧
      ∀ prec3 : Int, ∀ hv5, Jv5 [.int .i64 prec3] hv5 →
      Jv4 [.int .i64 (IntKind.i64.wrap (prec3 - (1 : Int))), .int .u8 (IntKind.u8.wrap ((IntKind.u8.wrap (fmt + (101 : Int))) - (103 : Int)))] hv5)
      (∃ Jv6 : List Value → Heap → Prop,
      ( cnd (decide (prec > dp))
        (Jv6 [.int .i64 nd] hv3)
        (Jv6 [.int .i64 prec] hv3)) ∧
      ∀ prec4 : Int, ∀ hv6, Jv6 [.int .i64 prec4] hv6 →
      Jv4 [.int .i64 (if (0 : Int) > (IntKind.i64.wrap (prec4 - dp)) then (0 : Int) else (IntKind.i64.wrap (prec4 - dp))), .int .u8 102] hv6)) ∧
     ∀ prec5 : Int, ∀ fmt2 : Int, ∀ hv7, Jv4 [.int .i64 prec5, .int .u8 fmt2] hv7 →
     K3 prec5 fmt2 hv7))
   cnd (decide (prec > nd))
    (∃ Jv : List Value → Heap → Prop,
    ( cnd (decide (nd ≥ dp))
     (Jv [.int .i64 nd] h)
     (Jv [.int .i64 prec] h)) ∧
    ∀ eprec : Int, ∀ hv, Jv [.int .i64 eprec] hv →
    K eprec hv)
    (K prec h))
   (∃ Jv7 : List Value → Heap → Prop,
   ( cnd (fmt == (71 : Int))
    (let K2 := fun (eprec5 : Int) (hv9 : Heap) =>
     (∃ Jv9 : List Value → Heap → Prop,
     ( cnd shortest
       (Jv9 [.int .i64 6] hv9)
       (Jv9 [.int .i64 eprec5] hv9)) ∧
     ∀ eprec6 : Int, ∀ hv10, Jv9 [.int .i64 eprec6] hv10 →
     cnd (decide ((IntKind.i64.wrap (dp - (1 : Int))) < ((-4) : Int)))
      (∃ Jv10 : List Value → Heap → Prop,
      ( cnd (decide (prec > nd))
        (Jv10 [.int .i64 nd] hv10)
        (Jv10 [.int .i64 prec] hv10)) ∧
      ∀ prec6 : Int, ∀ hv11, Jv10 [.int .i64 prec6] hv11 →
      Jv7 [.int .i64 (IntKind.i64.wrap (prec6 - (1 : Int))), .int .u8 (IntKind.u8.wrap ((IntKind.u8.wrap (fmt + (101 : Int))) - (103 : Int)))] hv11)
      (∃ Jv11 : List Value → Heap → Prop,
      ( cnd (decide ((IntKind.i64.wrap (dp - (1 : Int))) ≥ eprec6))
        (∃ Jv12 : List Value → Heap → Prop,
        ( cnd (decide (prec > nd))
         (Jv12 [.int .i64 nd] hv10)
         (Jv12 [.int .i64 prec] hv10)) ∧
        ∀ prec7 : Int, ∀ hv12, Jv12 [.int .i64 prec7] hv12 →
        Jv11 [.int .i64 (IntKind.i64.wrap (prec7 - (1 : Int))), .int .u8 (IntKind.u8.wrap ((IntKind.u8.wrap (fmt + (101 : Int))) - (103 : Int)))] hv12)
        (∃ Jv13 : List Value → Heap → Prop,
        ( cnd (decide (prec > dp))
         (Jv13 [.int .i64 nd] hv10)
         (Jv13 [.int .i64 prec] hv10)) ∧
        ∀ prec8 : Int, ∀ hv13, Jv13 [.int .i64 prec8] hv13 →
        Jv11 [.int .i64 (if (0 : Int) > (IntKind.i64.wrap (prec8 - dp)) then (0 : Int) else (IntKind.i64.wrap (prec8 - dp))), .int .u8 102] hv13)) ∧
      ∀ prec9 : Int, ∀ fmt3 : Int, ∀ hv14, Jv11 [.int .i64 prec9, .int .u8 fmt3] hv14 →
      Jv7 [.int .i64 prec9, .int .u8 fmt3] hv14))
    cnd (decide (prec > nd))
     (∃ Jv8 : List Value → Heap → Prop,
     ( cnd (decide (nd ≥ dp))
       (Jv8 [.int .i64 nd] h)
       (Jv8 [.int .i64 prec] h)) ∧
     ∀ eprec4 : Int, ∀ hv8, Jv8 [.int .i64 eprec4] hv8 →
     K2 eprec4 hv8)
     (K2 prec h))
    (Jv7 [.int .i64 prec, .int .u8 fmt] h)) ∧
   ∀ prec10 : Int, ∀ fmt4 : Int, ∀ hv15, Jv7 [.int .i64 prec10, .int .u8 fmt4] hv15 →
   K3 prec10 fmt4 hv15)
theorem calls63 {h : Heap} {R : Value → Heap → Prop} (dstA : Option Addr) (dstL dstC : Nat) (neg : Bool) (sA : Option Addr) (sL sC : Nat) (dp : Int) (nd : Int) (prec : Int) (fmt : Int) (shortest : Bool) (H : S63 dstA dstL dstC neg sA sL sC dp nd prec fmt shortest h R) : CallsH Tryz.prog 63 #[.slice dstA dstL dstC, .bool neg, .slice sA sL sC, .int .i64 dp, .int .i64 nd, .int .i64 prec, .int .u8 fmt, .bool shortest] h R := by
  have e : S63 dstA dstL dstC neg sA sL sC dp nd prec fmt shortest h R = FX (envX [80, 89, 94, 117, 122, 134, 150, 159, 173, 180, 197, 206, 210, 215, 243, 257, 264, 270] 272) { loops := [(1, ⟨[3, 4, 6, 19, 113], [0, 114], [], []⟩), (4, ⟨[2, 3, 4, 5, 23, 189, 190], [0, 191], [], []⟩), (6, ⟨[2, 3, 4, 5, 202], [0, 203], [], []⟩), (8, ⟨[2, 27, 28, 29, 239], [0, 240], [], []⟩), (10, ⟨[2, 27, 29, 246], [0, 247], [], []⟩), (12, ⟨[260], [0, 261], [], []⟩)], joins := [(45, ⟨[0, 1, 2, 3, 4, 5, 6, 7], [17], [], []⟩), (47, ⟨[0, 1, 2, 3, 4, 5, 6], [17], [], []⟩), (59, ⟨[0, 1, 2, 3, 4, 6], [5], [], []⟩), (56, ⟨[0, 1, 2, 3, 4], [5, 6], [], []⟩), (68, ⟨[0, 1, 2, 3, 4], [5], [], []⟩), (36, ⟨[0, 1, 2, 3, 4], [5, 6], [], []⟩), (78, ⟨[2, 3, 4, 5, 6], [0], [], []⟩), (83, ⟨[0, 2, 3, 4, 5, 6], [19], [], []⟩), (92, ⟨[3, 4, 6, 19], [0], [], []⟩), (102, ⟨[3, 4, 5, 6, 19], [0, 20], [], []⟩), (127, ⟨[0, 19], [22], [], []⟩), (129, ⟨[0], [19, 22], [], []⟩), (152, ⟨[], [0], [], []⟩), (161, ⟨[], [0], [], []⟩), (178, ⟨[2, 3, 4, 5], [0], [], []⟩), (183, ⟨[2, 3, 4, 5], [0], [], []⟩), (213, ⟨[], [0], [], []⟩)], blocks := [], draws := [] } Tryz.f63 (Tryz.f63.body.getD .skip) [.slice dstA dstL dstC, .bool neg, .slice sA sL sC, .int .i64 dp, .int .i64 nd, .int .i64 prec, .int .u8 fmt, .bool shortest] h R := by kernel_rfl
  exact calls_of_FX (envX_ok _ _) Tryz.func63 (by kernel_rfl) (by kernel_rfl) (by kernel_rfl) (e ▸ H)
/-- internal/strconv.fmtEFG -/
def Ok63 (dstV : List Int) (neg : Bool) (sV : List Int) (dp : Int) (nd : Int) (prec : Int) (fmt : Int) (shortest : Bool) (R : List Int → Prop) : Prop :=
  ∀ (h : Heap) (dstA : Option Addr) (dstL dstC : Nat) (sA : Option Addr) (sL sC : Nat), Hp h [Ck.sl (eK .u8) 5 dstA dstL dstC dstV, Ck.vw (eK .u8) sA sL sC sV] → CallsH Tryz.prog 63 #[.slice dstA dstL dstC, .bool neg, .slice sA sL sC, .int .i64 dp, .int .i64 nd, .int .i64 prec, .int .u8 fmt, .bool shortest] h fun v h' => ∃ (rVA : Option Addr) (rVL rVC : Nat) (rV : List Int), Sy h (owns [Ck.sl (eK .u8) 5 dstA dstL dstC dstV]) h' [Ck.sl (eK .u8) 5 rVA rVL rVC rV] ∧ v = .slice rVA rVL rVC ∧ R rV
theorem Ok63.mono {dstV neg sV dp nd prec fmt shortest} {R R' : List Int → Prop} (H : Ok63 dstV neg sV dp nd prec fmt shortest R) (kz : ∀ rV, R rV → R' rV) : Ok63 dstV neg sV dp nd prec fmt shortest R' :=
  fun h dstA dstL dstC sA sL sC hp => (H h dstA dstL dstC sA sL sC hp).mono fun _ _ ⟨rVA, rVL, rVC, rV, P, e, q⟩ => ⟨rVA, rVL, rVC, rV, P, e, kz _ q⟩
def T63 (dstV : List Int) (neg : Bool) (sV : List Int) (dp : Int) (nd : Int) (prec : Int) (fmt : Int) (shortest : Bool) (R : List Int → Prop) : Prop :=
  ∃ Jv_2 : Int → Int → Prop,
  ( cnd (fmt == (103 : Int))
   (∃ Jv_4 : Int → Prop,
   ( cnd (decide (prec > nd))
     (∃ Jv : Int → Prop,
     ( cnd (decide (nd ≥ dp))
      (Jv nd)
      (Jv prec)) ∧
     ∀ eprec : Int, Jv eprec →
     Jv_4 eprec)
     (Jv_4 prec)) ∧
   ∀ eprec2 : Int, Jv_4 eprec2 →
   ∃ Jv2 : Int → Prop,
   ( cnd shortest
     (Jv2 6)
     (Jv2 eprec2)) ∧
   ∀ eprec3 : Int, Jv2 eprec3 →
   cnd (decide ((IntKind.i64.wrap (dp - (1 : Int))) < ((-4) : Int)))
    (∃ Jv3 : Int → Prop,
    ( cnd (decide (prec > nd))
      (Jv3 nd)
      (Jv3 prec)) ∧
    ∀ prec2 : Int, Jv3 prec2 →
    Jv_2 (IntKind.i64.wrap (prec2 - (1 : Int))) (IntKind.u8.wrap ((IntKind.u8.wrap (fmt + (101 : Int))) - (103 : Int))))
    (∃ Jv4 : Int → Int → Prop,
    ( cnd (decide ((IntKind.i64.wrap (dp - (1 : Int))) ≥ eprec3))
      (∃ Jv5 : Int → Prop,
      ( cnd (decide (prec > nd))
       (Jv5 nd)
       (Jv5 prec)) ∧
      ∀ prec3 : Int, Jv5 prec3 →
      Jv4 (IntKind.i64.wrap (prec3 - (1 : Int))) (IntKind.u8.wrap ((IntKind.u8.wrap (fmt + (101 : Int))) - (103 : Int))))
      (∃ Jv6 : Int → Prop,
      ( cnd (decide (prec > dp))
       (Jv6 nd)
       (Jv6 prec)) ∧
      ∀ prec4 : Int, Jv6 prec4 →
      Jv4 (if (0 : Int) > (IntKind.i64.wrap (prec4 - dp)) then (0 : Int) else (IntKind.i64.wrap (prec4 - dp))) 102)) ∧
    ∀ prec5 : Int, ∀ fmt2 : Int, Jv4 prec5 fmt2 →
    Jv_2 prec5 fmt2))
   (∃ Jv7 : Int → Int → Prop,
   ( cnd (fmt == (71 : Int))
     (∃ Jv_5 : Int → Prop,
     ( cnd (decide (prec > nd))
      (∃ Jv8 : Int → Prop,
      ( cnd (decide (nd ≥ dp))
        (Jv8 nd)
        (Jv8 prec)) ∧
      ∀ eprec4 : Int, Jv8 eprec4 →
      Jv_5 eprec4)
      (Jv_5 prec)) ∧
     ∀ eprec5 : Int, Jv_5 eprec5 →
     ∃ Jv9 : Int → Prop,
     ( cnd shortest
      (Jv9 6)
      (Jv9 eprec5)) ∧
     ∀ eprec6 : Int, Jv9 eprec6 →
     cnd (decide ((IntKind.i64.wrap (dp - (1 : Int))) < ((-4) : Int)))
      (∃ Jv10 : Int → Prop,
      ( cnd (decide (prec > nd))
       (Jv10 nd)
       (Jv10 prec)) ∧
      ∀ prec6 : Int, Jv10 prec6 →
      Jv7 (IntKind.i64.wrap (prec6 - (1 : Int))) (IntKind.u8.wrap ((IntKind.u8.wrap (fmt + (101 : Int))) - (103 : Int))))
      (∃ Jv11 : Int → Int → Prop,
      ( cnd (decide ((IntKind.i64.wrap (dp - (1 : Int))) ≥ eprec6))
       (∃ Jv12 : Int → Prop,
       ( cnd (decide (prec > nd))
         (Jv12 nd)
         (Jv12 prec)) ∧
       ∀ prec7 : Int, Jv12 prec7 →
       Jv11 (IntKind.i64.wrap (prec7 - (1 : Int))) (IntKind.u8.wrap ((IntKind.u8.wrap (fmt + (101 : Int))) - (103 : Int))))
       (∃ Jv13 : Int → Prop,
       ( cnd (decide (prec > dp))
         (Jv13 nd)
         (Jv13 prec)) ∧
       ∀ prec8 : Int, Jv13 prec8 →
       Jv11 (if (0 : Int) > (IntKind.i64.wrap (prec8 - dp)) then (0 : Int) else (IntKind.i64.wrap (prec8 - dp))) 102)) ∧
      ∀ prec9 : Int, ∀ fmt3 : Int, Jv11 prec9 fmt3 →
      Jv7 prec9 fmt3))
     (Jv7 prec fmt)) ∧
   ∀ prec10 : Int, ∀ fmt4 : Int, Jv7 prec10 fmt4 →
   Jv_2 prec10 fmt4)) ∧
  ∀ prec11 : Int, ∀ fmt5 : Int, Jv_2 prec11 fmt5 →
  ∃ Jv_3 : Bool → Prop,
  ( cnd (fmt5 == (101 : Int))
   (Jv_3 (fmt5 == (101 : Int)))
   (Jv_3 (fmt5 == (69 : Int)))) ∧
  ∀ x : Bool, Jv_3 x →
  cnd x
   (∃ Jv14 : List Int → Prop,
   ( cnd neg
    ((dstV.length + 1) < 1000000000000 ∧ Jv14 (dstV ++ [45]))
    (Jv14 dstV)) ∧
   ∀ dst : List Int, Jv14 dst →
   ∃ Jv15 : Int → Prop,
   ( cnd (nd != (0 : Int))
    (0 ≤ (0 : Int) ∧ (0 : Int) < ((sV.length : Nat) : Int) ∧ ∀ s : Int, sV[(Int.toNat (0 : Int))]? = some s → Jv15 s)
    (Jv15 48)) ∧
   ∀ ch : Int, Jv15 ch →
   (dst.length + 1) < 1000000000000 ∧ ∃ Jv16 : List Int → Prop,
   ( cnd (decide (prec11 > (0 : Int)))
    (((dst.length + 1) + 1) < 1000000000000 ∧ ∃ Jv17 : List Int → Int → Prop,
    ( cnd (decide ((1 : Int) < (if (IntKind.i64.wrap (prec11 + (1 : Int))) < nd then (IntKind.i64.wrap (prec11 + (1 : Int))) else nd)))
      (0 ≤ (if (IntKind.i64.wrap (prec11 + (1 : Int))) < nd then (IntKind.i64.wrap (prec11 + (1 : Int))) else nd) ∧ (if (IntKind.i64.wrap (prec11 + (1 : Int))) < nd then (IntKind.i64.wrap (prec11 + (1 : Int))) else nd) ≤ ((sV.length : Nat) : Int) ∧ 0 ≤ (1 : Int) ∧ (1 : Int) ≤ (((Int.toNat (if (IntKind.i64.wrap (prec11 + (1 : Int))) < nd then (IntKind.i64.wrap (prec11 + (1 : Int))) else nd)) : Nat) : Int) ∧ (((dst.length + 1) + 1) + ((Int.toNat (if (IntKind.i64.wrap (prec11 + (1 : Int))) < nd then (IntKind.i64.wrap (prec11 + (1 : Int))) else nd)) - (Int.toNat (1 : Int)))) < 1000000000000 ∧ Jv17 (((dst ++ [ch]) ++ [46]) ++ ((sV.take (Int.toNat (if (IntKind.i64.wrap (prec11 + (1 : Int))) < nd then (IntKind.i64.wrap (prec11 + (1 : Int))) else nd))).drop (Int.toNat (1 : Int)))) (if (IntKind.i64.wrap (prec11 + (1 : Int))) < nd then (IntKind.i64.wrap (prec11 + (1 : Int))) else nd))
      (Jv17 ((dst ++ [ch]) ++ [46]) 1)) ∧
    ∀ dst_3 : List Int, ∀ i : Int, Jv17 dst_3 i →
    ∃ (Iv : List Int → Int → Prop) (m : List Int → Int → Nat), Iv dst_3 0 ∧
    ∀ dst_4 : List Int, ∀ x3 : Int, Iv dst_4 x3 →
    cnd (decide (x3 < (IntKind.i64.wrap ((IntKind.i64.wrap (prec11 + (1 : Int))) - i))))
     ((dst_4.length + 1) < 1000000000000 ∧ Iv (dst_4 ++ [48]) (IntKind.i64.wrap (x3 + (1 : Int))) ∧ m (dst_4 ++ [48]) (IntKind.i64.wrap (x3 + (1 : Int))) < m dst_4 x3)
     (Jv16 dst_4))
    (Jv16 (dst ++ [ch]))) ∧
   ∀ dst_2 : List Int, Jv16 dst_2 →
   (dst_2.length + 1) < 1000000000000 ∧ ∃ Jv18 : Int → Prop,
   ( cnd (nd == (0 : Int))
    (Jv18 0)
    (Jv18 (IntKind.i64.wrap (dp - (1 : Int))))) ∧
   ∀ exp : Int, Jv18 exp →
   ∃ Jv19 : Int → Int → Prop,
   ( cnd (decide (exp < (0 : Int)))
    (Jv19 45 (IntKind.i64.wrap (0 - exp)))
    (Jv19 43 exp)) ∧
   ∀ ch2 : Int, ∀ exp2 : Int, Jv19 ch2 exp2 →
   ((dst_2.length + 1) + 1) < 1000000000000 ∧ ∃ Jv20 : List Int → Prop,
   ( cnd (decide (exp2 < (10 : Int)))
    ((((dst_2.length + 1) + 1) + 2) < 1000000000000 ∧ Jv20 (((dst_2 ++ [fmt5]) ++ [ch2]) ++ [48, (IntKind.u8.wrap ((IntKind.u8.wrap exp2) + (48 : Int)))]))
    (∃ Jv21 : List Int → Prop,
    ( cnd (decide (exp2 < (100 : Int)))
      ((10 : Int) ≠ 0 ∧ (10 : Int) ≠ 0 ∧ (((dst_2.length + 1) + 1) + 2) < 1000000000000 ∧ Jv21 (((dst_2 ++ [fmt5]) ++ [ch2]) ++ [(IntKind.u8.wrap ((IntKind.u8.wrap (IntKind.i64.wrap (Int.tdiv exp2 (10 : Int)))) + (48 : Int))), (IntKind.u8.wrap ((IntKind.u8.wrap (Int.tmod exp2 (10 : Int))) + (48 : Int)))]))
      ((100 : Int) ≠ 0 ∧ (10 : Int) ≠ 0 ∧ (10 : Int) ≠ 0 ∧ (10 : Int) ≠ 0 ∧ (((dst_2.length + 1) + 1) + 3) < 1000000000000 ∧ Jv21 (((dst_2 ++ [fmt5]) ++ [ch2]) ++ [(IntKind.u8.wrap ((IntKind.u8.wrap (IntKind.i64.wrap (Int.tdiv exp2 (100 : Int)))) + (48 : Int))), (IntKind.u8.wrap ((Int.tmod (IntKind.u8.wrap (IntKind.i64.wrap (Int.tdiv exp2 (10 : Int)))) (10 : Int)) + (48 : Int))), (IntKind.u8.wrap ((IntKind.u8.wrap (Int.tmod exp2 (10 : Int))) + (48 : Int)))]))) ∧
    ∀ dst_6 : List Int, Jv21 dst_6 →
    Jv20 dst_6)) ∧
   ∀ dst_5 : List Int, Jv20 dst_5 →
   R dst_5)
   (cnd (fmt5 == (102 : Int))
    (∃ Jv22 : List Int → Prop,
    ( cnd neg
     ((dstV.length + 1) < 1000000000000 ∧ Jv22 (dstV ++ [45]))
     (Jv22 dstV)) ∧
    ∀ dst_7 : List Int, Jv22 dst_7 →
    ∃ Jv23 : List Int → Prop,
    ( cnd (decide (dp > (0 : Int)))
     (0 ≤ (if dp < nd then dp else nd) ∧ (if dp < nd then dp else nd) ≤ ((sV.length : Nat) : Int) ∧ ∃ (Iv2 : List Int → Int → Prop) (m2 : List Int → Int → Nat), Iv2 dst_7 0 ∧
     ∀ dst_9 : List Int, ∀ x4 : Int, Iv2 dst_9 x4 →
     cnd (decide (x4 < ((((Int.toNat (if dp < nd then dp else nd)) - 0) : Nat) : Int)))
      (0 ≤ x4 ∧ x4 < ((((Int.toNat (if dp < nd then dp else nd)) - 0) : Nat) : Int) ∧ ∀ x_2 : Int, (sV.take (Int.toNat (if dp < nd then dp else nd)))[(Int.toNat x4)]? = some x_2 → (dst_9.length + 1) < 1000000000000 ∧ Iv2 (dst_9 ++ [x_2]) (IntKind.i64.wrap (x4 + (1 : Int))) ∧ m2 (dst_9 ++ [x_2]) (IntKind.i64.wrap (x4 + (1 : Int))) < m2 dst_9 x4)
      (∃ (Iv3 : List Int → Int → Prop) (m3 : List Int → Int → Nat), Iv3 dst_9 0 ∧
      ∀ dst_10 : List Int, ∀ x6 : Int, Iv3 dst_10 x6 →
      cnd (decide (x6 < (IntKind.i64.wrap (dp - (if dp < nd then dp else nd)))))
       ((dst_10.length + 1) < 1000000000000 ∧ Iv3 (dst_10 ++ [48]) (IntKind.i64.wrap (x6 + (1 : Int))) ∧ m3 (dst_10 ++ [48]) (IntKind.i64.wrap (x6 + (1 : Int))) < m3 dst_10 x6)
       (Jv23 dst_10)))
     ((dst_7.length + 1) < 1000000000000 ∧ Jv23 (dst_7 ++ [48]))) ∧
    ∀ dst_8 : List Int, Jv23 dst_8 →
    ∃ Jv24 : List Int → Prop,
    ( cnd (decide (prec11 > (0 : Int)))
     ((dst_8.length + 1) < 1000000000000 ∧ ∃ (Iv4 : List Int → Int → Prop) (m4 : List Int → Int → Nat), Iv4 (dst_8 ++ [46]) 0 ∧
     ∀ dst_12 : List Int, ∀ x7 : Int, Iv4 dst_12 x7 →
     cnd (decide (x7 < (if (if (IntKind.i64.wrap (0 - dp)) > (0 : Int) then (IntKind.i64.wrap (0 - dp)) else (0 : Int)) < prec11 then (if (IntKind.i64.wrap (0 - dp)) > (0 : Int) then (IntKind.i64.wrap (0 - dp)) else (0 : Int)) else prec11)))
      ((dst_12.length + 1) < 1000000000000 ∧ Iv4 (dst_12 ++ [48]) (IntKind.i64.wrap (x7 + (1 : Int))) ∧ m4 (dst_12 ++ [48]) (IntKind.i64.wrap (x7 + (1 : Int))) < m4 dst_12 x7)
      (∃ (Iv5 : List Int → Int → Prop) (m5 : List Int → Int → Nat), Iv5 dst_12 0 ∧
      ∀ dst_13 : List Int, ∀ x8 : Int, Iv5 dst_13 x8 →
      cnd (decide (x8 < (if (if (IntKind.i64.wrap (nd - (IntKind.i64.wrap (dp + (if (if (IntKind.i64.wrap (0 - dp)) > (0 : Int) then (IntKind.i64.wrap (0 - dp)) else (0 : Int)) < prec11 then (if (IntKind.i64.wrap (0 - dp)) > (0 : Int) then (IntKind.i64.wrap (0 - dp)) else (0 : Int)) else prec11))))) > (0 : Int) then (IntKind.i64.wrap (nd - (IntKind.i64.wrap (dp + (if (if (IntKind.i64.wrap (0 - dp)) > (0 : Int) then (IntKind.i64.wrap (0 - dp)) else (0 : Int)) < prec11 then (if (IntKind.i64.wrap (0 - dp)) > (0 : Int) then (IntKind.i64.wrap (0 - dp)) else (0 : Int)) else prec11))))) else (0 : Int)) < (IntKind.i64.wrap (prec11 - (if (if (IntKind.i64.wrap (0 - dp)) > (0 : Int) then (IntKind.i64.wrap (0 - dp)) else (0 : Int)) < prec11 then (if (IntKind.i64.wrap (0 - dp)) > (0 : Int) then (IntKind.i64.wrap (0 - dp)) else (0 : Int)) else prec11))) then (if (IntKind.i64.wrap (nd - (IntKind.i64.wrap (dp + (if (if (IntKind.i64.wrap (0 - dp)) > (0 : Int) then (IntKind.i64.wrap (0 - dp)) else (0 : Int)) < prec11 then (if (IntKind.i64.wrap (0 - dp)) > (0 : Int) then (IntKind.i64.wrap (0 - dp)) else (0 : Int)) else prec11))))) > (0 : Int) then (IntKind.i64.wrap (nd - (IntKind.i64.wrap (dp + (if (if (IntKind.i64.wrap (0 - dp)) > (0 : Int) then (IntKind.i64.wrap (0 - dp)) else (0 : Int)) < prec11 then (if (IntKind.i64.wrap (0 - dp)) > (0 : Int) then (IntKind.i64.wrap (0 - dp)) else (0 : Int)) else prec11))))) else (0 : Int)) else (IntKind.i64.wrap (prec11 - (if (if (IntKind.i64.wrap (0 - dp)) > (0 : Int) then (IntKind.i64.wrap (0 - dp)) else (0 : Int)) < prec11 then (if (IntKind.i64.wrap (0 - dp)) > (0 : Int) then (IntKind.i64.wrap (0 - dp)) else (0 : Int)) else prec11))))))
       (0 ≤ (IntKind.i64.wrap ((IntKind.i64.wrap (dp + (if (if (IntKind.i64.wrap (0 - dp)) > (0 : Int) then (IntKind.i64.wrap (0 - dp)) else (0 : Int)) < prec11 then (if (IntKind.i64.wrap (0 - dp)) > (0 : Int) then (IntKind.i64.wrap (0 - dp)) else (0 : Int)) else prec11))) + x8)) ∧ (IntKind.i64.wrap ((IntKind.i64.wrap (dp + (if (if (IntKind.i64.wrap (0 - dp)) > (0 : Int) then (IntKind.i64.wrap (0 - dp)) else (0 : Int)) < prec11 then (if (IntKind.i64.wrap (0 - dp)) > (0 : Int) then (IntKind.i64.wrap (0 - dp)) else (0 : Int)) else prec11))) + x8)) < ((sV.length : Nat) : Int) ∧ ∀ s_2 : Int, sV[(Int.toNat (IntKind.i64.wrap ((IntKind.i64.wrap (dp + (if (if (IntKind.i64.wrap (0 - dp)) > (0 : Int) then (IntKind.i64.wrap (0 - dp)) else (0 : Int)) < prec11 then (if (IntKind.i64.wrap (0 - dp)) > (0 : Int) then (IntKind.i64.wrap (0 - dp)) else (0 : Int)) else prec11))) + x8)))]? = some s_2 → (dst_13.length + 1) < 1000000000000 ∧ Iv5 (dst_13 ++ [s_2]) (IntKind.i64.wrap (x8 + (1 : Int))) ∧ m5 (dst_13 ++ [s_2]) (IntKind.i64.wrap (x8 + (1 : Int))) < m5 dst_13 x8)
       (∃ (Iv6 : List Int → Int → Prop) (m6 : List Int → Int → Nat), Iv6 dst_13 0 ∧
       ∀ dst_14 : List Int, ∀ x10 : Int, Iv6 dst_14 x10 →
       cnd (decide (x10 < (if (IntKind.i64.wrap ((IntKind.i64.wrap (prec11 - (if (if (IntKind.i64.wrap (0 - dp)) > (0 : Int) then (IntKind.i64.wrap (0 - dp)) else (0 : Int)) < prec11 then (if (IntKind.i64.wrap (0 - dp)) > (0 : Int) then (IntKind.i64.wrap (0 - dp)) else (0 : Int)) else prec11))) - (if (if (IntKind.i64.wrap (nd - (IntKind.i64.wrap (dp + (if (if (IntKind.i64.wrap (0 - dp)) > (0 : Int) then (IntKind.i64.wrap (0 - dp)) else (0 : Int)) < prec11 then (if (IntKind.i64.wrap (0 - dp)) > (0 : Int) then (IntKind.i64.wrap (0 - dp)) else (0 : Int)) else prec11))))) > (0 : Int) then (IntKind.i64.wrap (nd - (IntKind.i64.wrap (dp + (if (if (IntKind.i64.wrap (0 - dp)) > (0 : Int) then (IntKind.i64.wrap (0 - dp)) else (0 : Int)) < prec11 then (if (IntKind.i64.wrap (0 - dp)) > (0 : Int) then (IntKind.i64.wrap (0 - dp)) else (0 : Int)) else prec11))))) else (0 : Int)) < (IntKind.i64.wrap (prec11 - (if (if (IntKind.i64.wrap (0 - dp)) > (0 : Int) then (IntKind.i64.wrap (0 - dp)) else (0 : Int)) < prec11 then (if (IntKind.i64.wrap (0 - dp)) > (0 : Int) then (IntKind.i64.wrap (0 - dp)) else (0 : Int)) else prec11))) then (if (IntKind.i64.wrap (nd - (IntKind.i64.wrap (dp + (if (if (IntKind.i64.wrap (0 - dp)) > (0 : Int) then (IntKind.i64.wrap (0 - dp)) else (0 : Int)) < prec11 then (if (IntKind.i64.wrap (0 - dp)) > (0 : Int) then (IntKind.i64.wrap (0 - dp)) else (0 : Int)) else prec11))))) > (0 : Int) then (IntKind.i64.wrap (nd - (IntKind.i64.wrap (dp + (if (if (IntKind.i64.wrap (0 - dp)) > (0 : Int) then (IntKind.i64.wrap (0 - dp)) else (0 : Int)) < prec11 then (if (IntKind.i64.wrap (0 - dp)) > (0 : Int) then (IntKind.i64.wrap (0 - dp)) else (0 : Int)) else prec11))))) else (0 : Int)) else (IntKind.i64.wrap (prec11 - (if (if (IntKind.i64.wrap (0 - dp)) > (0 : Int) then (IntKind.i64.wrap (0 - dp)) else (0 : Int)) < prec11 then (if (IntKind.i64.wrap (0 - dp)) > (0 : Int) then (IntKind.i64.wrap (0 - dp)) else (0 : Int)) else prec11)))))) > (0 : Int) then (IntKind.i64.wrap ((IntKind.i64.wrap (prec11 - (if (if (IntKind.i64.wrap (0 - dp)) > (0 : Int) then (IntKind.i64.wrap (0 - dp)) else (0 : Int)) < prec11 then (if (IntKind.i64.wrap (0 - dp)) > (0 : Int) then (IntKind.i64.wrap (0 - dp)) else (0 : Int)) else prec11))) - (if (if (IntKind.i64.wrap (nd - (IntKind.i64.wrap (dp + (if (if (IntKind.i64.wrap (0 - dp)) > (0 : Int) then (IntKind.i64.wrap (0 - dp)) else (0 : Int)) < prec11 then (if (IntKind.i64.wrap (0 - dp)) > (0 : Int) then (IntKind.i64.wrap (0 - dp)) else (0 : Int)) else prec11))))) > (0 : Int) then (IntKind.i64.wrap (nd - (IntKind.i64.wrap (dp + (if (if (IntKind.i64.wrap (0 - dp)) > (0 : Int) then (IntKind.i64.wrap (0 - dp)) else (0 : Int)) < prec11 then (if (IntKind.i64.wrap (0 - dp)) > (0 : Int) then (IntKind.i64.wrap (0 - dp)) else (0 : Int)) else prec11))))) else (0 : Int)) < (IntKind.i64.wrap (prec11 - (if (if (IntKind.i64.wrap (0 - dp)) > (0 : Int) then (IntKind.i64.wrap (0 - dp)) else (0 : Int)) < prec11 then (if (IntKind.i64.wrap (0 - dp)) > (0 : Int) then (IntKind.i64.wrap (0 - dp)) else (0 : Int)) else prec11))) then (if (IntKind.i64.wrap (nd - (IntKind.i64.wrap (dp + (if (if (IntKind.i64.wrap (0 - dp)) > (0 : Int) then (IntKind.i64.wrap (0 - dp)) else (0 : Int)) < prec11 then (if (IntKind.i64.wrap (0 - dp)) > (0 : Int) then (IntKind.i64.wrap (0 - dp)) else (0 : Int)) else prec11))))) > (0 : Int) then (IntKind.i64.wrap (nd - (IntKind.i64.wrap (dp + (if (if (IntKind.i64.wrap (0 - dp)) > (0 : Int) then (IntKind.i64.wrap (0 - dp)) else (0 : Int)) < prec11 then (if (IntKind.i64.wrap (0 - dp)) > (0 : Int) then (IntKind.i64.wrap (0 - dp)) else (0 : Int)) else prec11))))) else (0 : Int)) else (IntKind.i64.wrap (prec11 - (if (if (IntKind.i64.wrap (0 - dp)) > (0 : Int) then (IntKind.i64.wrap (0 - dp)) else (0 : Int)) < prec11 then (if (IntKind.i64.wrap (0 - dp)) > (0 : Int) then (IntKind.i64.wrap (0 - dp)) else (0 : Int)) else prec11)))))) else (0 : Int))))
        ((dst_14.length + 1) < 1000000000000 ∧ Iv6 (dst_14 ++ [48]) (IntKind.i64.wrap (x10 + (1 : Int))) ∧ m6 (dst_14 ++ [48]) (IntKind.i64.wrap (x10 + (1 : Int))) < m6 dst_14 x10)
        (Jv24 dst_14))))
     (Jv24 dst_8)) ∧
    ∀ dst_11 : List Int, Jv24 dst_11 →
    R dst_11)
    ((dstV.length + 2) < 1000000000000 ∧ R (dstV ++ [37, fmt5])))
theorem ok63 {dstV neg sV dp nd prec fmt shortest} {R : List Int → Prop} (T : T63 dstV neg sV dp nd prec fmt shortest R) : Ok63 dstV neg sV dp nd prec fmt shortest R := by
  intro h dstA dstL dstC sA sL sC H
  have Y : Sy h (owns [Ck.sl (eK .u8) 5 dstA dstL dstC dstV]) h _ := Sy.startM H rfl
  obtain rfl := Y.lenS 0 rfl
  obtain rfl := Y.lenV 1 rfl
  apply calls63
  unfold S63
  unfold T63 at T
  obtain ⟨Jv_2, T0, T1⟩ := T
  obtain ⟨B, hB, _⟩ := Y.cut [] [0, 1] rfl
  intro K3
  have hK3 : ∀ (prec11 : Int) (fmt5 : Int) (hv16 : Heap), (Sy h (owns [Ck.sl (eK .u8) 5 dstA dstV.length dstC dstV]) hv16 ([] ++ B) ∧ Jv_2 prec11 fmt5) → K3 prec11 fmt5 hv16 := by
    subst hB
    clear T0 Y
    rintro prec11 fmt5 hv16 ⟨Y, T⟩
    replace T := T1 prec11 fmt5 T
    have Y : Sy _ _ _ [_, _] := Y
    unfold K3
    obtain ⟨Jv_3, T0, T1⟩ := T
    obtain ⟨B_2, hB_2, _⟩ := Y.cut [] [0, 1] rfl
    intro K4
    have hK4 : ∀ (x : Bool) (hv17 : Heap), (Sy h (owns [Ck.sl (eK .u8) 5 dstA dstV.length dstC dstV]) hv17 ([] ++ B_2) ∧ Jv_3 x) → K4 x hv17 := by
      subst hB_2
      clear T0 Y
      rintro x hv17 ⟨Y, T⟩
      replace T := T1 x T
      have Y : Sy _ _ _ [_, _] := Y
      unfold K4
      refine cnd_imp T (fun T => ?_) (fun T => ?_)
      · obtain ⟨Jv14, T0, T1⟩ := T
        obtain ⟨B_3, hB_3, _⟩ := Y.cut [] [1] rfl
        refine ⟨fun lz h' => ∃ (dstA2 : Option Addr) (dstL2 dstC2 : Nat) (dst : List Int), lz = [.slice dstA2 dstL2 dstC2] ∧ Sy h (owns [Ck.sl (eK .u8) 5 dstA dstV.length dstC dstV]) h' ([Ck.sl (eK .u8) 5 dstA2 dstL2 dstC2 dst] ++ B_3) ∧ Jv14 dst, ?_, ?_⟩
        · subst hB_3
          replace T := T0
          clear T0 T1
          refine cnd_imp T (fun T => ?_) (fun T => ?_)
          · intro hv18
            have Y : Sy _ _ hv18 [_, _, _] := Y.junk _
            clear_value hv18
            obtain ⟨q, T⟩ := T
            refine ⟨_, Y.ownS 0 rfl, (allc (Y.nJ 0 2 rfl rfl rfl) alln), by first | exact appB q (by decide) | omega, by first | exact appM q | (simp [maxLen]; omega), ?_⟩
            intro sA2 sC2 hv19 ow fA gA gB
            have Y : Sy _ _ hv19 [_, _, _] := Y.appS 0 rfl ([45] : List Int) ow fA gA rfl rfl
            exact ⟨_, _, _, _, rfl, Y.pick [0, 1] rfl, T⟩
          · exact ⟨_, _, _, _, rfl, Y.pick [0, 1] rfl, T⟩
        · subst hB_3
          clear T0 Y
          rintro dstA2 dstL2 dstC2 hv20 ⟨dstA2, dstL2, dstC2, dst, e, Y, T⟩
          cases e
          obtain rfl := Y.lenS 0 rfl
          replace T := T1 dst T
          have Y : Sy _ _ _ [_, _] := Y
          obtain ⟨Jv15, T0, T1⟩ := T
          obtain ⟨B_4, hB_4, _⟩ := Y.cut [] [0, 1] rfl
          refine ⟨fun lz h' => ∃ (ch : Int), lz = [.int .u8 ch] ∧ Sy h (owns [Ck.sl (eK .u8) 5 dstA dstV.length dstC dstV]) h' ([] ++ B_4) ∧ Jv15 ch, ?_, ?_⟩
          · subst hB_4
            replace T := T0
            clear T0 T1
            refine cnd_imp T (fun T => ?_) (fun T => ?_)
            · obtain ⟨q_2, q_3, T⟩ := T
              obtain ⟨b_2, o_2, hb, hr, s, hx⟩ := Y.atV 1 rfl q_2 q_3
              refine ⟨b_2, o_2, hb, q_2, q_3, ?_⟩
              replace T := T s hx
              refine ⟨_, Y.cellV 1 rfl hb (t := 0) hx rfl, ?_⟩
              exact ⟨_, rfl, Y.pick [0, 1] rfl, T⟩
            · exact ⟨_, rfl, Y.pick [0, 1] rfl, T⟩
          · subst hB_4
            clear T0 Y
            rintro ch hv21 ⟨ch, e, Y, T⟩
            cases e
            replace T := T1 ch T
            have Y : Sy _ _ _ [_, _] := Y
            intro hv22
            have Y : Sy _ _ hv22 [_, _, _] := Y.junk _
            clear_value hv22
            obtain ⟨q_4, T⟩ := T
            refine ⟨_, Y.ownS 0 rfl, (allc (Y.nJ 0 2 rfl rfl rfl) alln), by first | exact appB q_4 (by decide) | omega, by first | exact appM q_4 | (simp [maxLen]; omega), ?_⟩
            intro sA3 sC3 hv23 ow fA gA gB
            have Y : Sy _ _ hv23 [_, _, _] := Y.appS 0 rfl ([ch] : List Int) ow fA gA rfl rfl
            obtain ⟨Jv16, T0, T1⟩ := T
            obtain ⟨B_5, hB_5, _⟩ := Y.cut [] [1, 2] rfl
            refine ⟨fun lz h' => ∃ (dstA5 : Option Addr) (dstL5 dstC5 : Nat) (dst_2 : List Int), lz = [.slice dstA5 dstL5 dstC5] ∧ Sy h (owns [Ck.sl (eK .u8) 5 dstA dstV.length dstC dstV]) h' ([Ck.sl (eK .u8) 5 dstA5 dstL5 dstC5 dst_2] ++ B_5) ∧ Jv16 dst_2, ?_, ?_⟩
            · subst hB_5
              replace T := T0
              clear T0 T1
              refine cnd_imp T (fun T => ?_) (fun T => ?_)
              · intro hv24
                have Y : Sy _ _ hv24 [_, _, _, _] := Y.junk _
                clear_value hv24
                obtain ⟨q_5, T⟩ := T
                refine ⟨_, Y.ownS 0 rfl, (allc (Y.nJ 0 3 rfl rfl rfl) (allc (Y.nJ 0 2 rfl rfl rfl) alln)), by first | exact appB q_5 (by decide) | omega, by first | exact appM q_5 | (simp [maxLen]; omega), ?_⟩
                intro sA4 sC4 hv25 ow fA gA gB
                have Y : Sy _ _ hv25 [_, _, _, _] := Y.appS 0 rfl ([46] : List Int) ow fA gA rfl rfl
                obtain ⟨Jv17, T0, T1⟩ := T
                obtain ⟨B_6, hB_6, _⟩ := Y.cut [] [1, 2, 3] rfl
                refine ⟨fun lz h' => ∃ (dstA3 : Option Addr) (dstL3 dstC3 : Nat) (dst_3 : List Int) (i : Int), lz = [.slice dstA3 dstL3 dstC3, .int .i64 i] ∧ Sy h (owns [Ck.sl (eK .u8) 5 dstA dstV.length dstC dstV]) h' ([Ck.sl (eK .u8) 5 dstA3 dstL3 dstC3 dst_3] ++ B_6) ∧ Jv17 dst_3 i, ?_, ?_⟩
                · subst hB_6
                  replace T := T0
                  clear T0 T1
                  refine cnd_imp T (fun T => ?_) (fun T => ?_)
                  · obtain ⟨q_6, q_7, T⟩ := T
                    refine ⟨q_6, (by have := (Y.capV 1 rfl).1; omega), ?_⟩
                    obtain ⟨q_8, q_9, T⟩ := T
                    refine ⟨q_8, q_9, ?_⟩
                    refine ⟨_, ((Y.readsV 1 rfl).takeR (Int.toNat (if (IntKind.i64.wrap (prec11 + (1 : Int))) < nd then (IntKind.i64.wrap (prec11 + (1 : Int))) else nd)) (by omega)).dropR (Int.toNat (1 : Int)) (by omega) (by have := (Y.capV 1 rfl).1; omega) (Y.capV 1 rfl).2 (by omega), dropNc (Y.capV 1 rfl).2, En.l_one _, ?_⟩
                    obtain ⟨q_10, T⟩ := T
                    refine ⟨_, Y.ownS 0 rfl, (allc (Y.nJ 0 3 rfl rfl rfl) (allc (Y.nJ 0 2 rfl rfl rfl) alln)), by first | exact appB q_10 (by decide) | omega, by first | exact appM q_10 | (simp [maxLen]; omega), ?_⟩
                    intro sA5 sC5 hv26 ow fA gA gB
                    have Y : Sy _ _ hv26 [_, _, _, _] := Y.appS 0 rfl ((sV.take (Int.toNat (if (IntKind.i64.wrap (prec11 + (1 : Int))) < nd then (IntKind.i64.wrap (prec11 + (1 : Int))) else nd))).drop (Int.toNat (1 : Int))) ow fA gA rfl (lenTD (Int.toNat (1 : Int)) (by first | exact Int.toNat_le.2 (by assumption) | omega))
                    exact ⟨_, _, _, _, _, rfl, Y.pick [0, 1, 2, 3] rfl, T⟩
                  · exact ⟨_, _, _, _, _, rfl, Y.pick [0, 1, 2, 3] rfl, T⟩
                · subst hB_6
                  clear T0 Y
                  rintro dstA3 dstL3 dstC3 i hv27 ⟨dstA3, dstL3, dstC3, dst_3, i, e, Y, T⟩
                  cases e
                  obtain rfl := Y.lenS 0 rfl
                  replace T := T1 dst_3 i T
                  have Y : Sy _ _ _ [_, _, _, _] := Y
                  obtain ⟨Iv, m, T0, T1⟩ := T
                  obtain ⟨B_7, hB_7, YB⟩ := Y.cut [0] [1, 2, 3] rfl
                  obtain ⟨JJ, hJJ⟩ : ∃ JJ : Nat → List Value → Heap → Prop, JJ = (fun k lz h' => ∃ (dstA4 : Option Addr) (dstL4 dstC4 : Nat) (dst_4 : List Int) (x3 : Int), lz = [.slice dstA4 dstL4 dstC4, .int .i64 x3] ∧ Sy h (owns [Ck.sl (eK .u8) 5 dstA dstV.length dstC dstV]) h' ([Ck.sl (eK .u8) 5 dstA4 dstL4 dstC4 dst_4] ++ B_7) ∧ Iv dst_4 x3 ∧ m dst_4 x3 = k) := ⟨_, rfl⟩
                  refine ⟨fun lz h' => ∃ k, JJ k lz h', Lm JJ, ?_, ?_⟩
                  · subst hJJ hB_7
                    exact ⟨_, _, _, _, _, _, rfl, YB, T0, rfl⟩
                  · clear YB T0 Y
                    intro dstA4 dstL4 dstC4 x3 hv28 hI
                    obtain ⟨k, hI, hm⟩ := loopIn hI
                    subst hJJ hB_7
                    obtain ⟨dstA4, dstL4, dstC4, dst_4, x3, e, Y, T, rfl⟩ := hI
                    cases e
                    obtain rfl := Y.lenS 0 rfl
                    replace T := T1 dst_4 x3 T
                    have Y : Sy _ _ _ [_, _, _, _] := Y
                    refine cnd_imp T (fun T => ?_) (fun T => ?_)
                    · intro hv29
                      have Y : Sy _ _ hv29 [_, _, _, _, _] := Y.junk _
                      clear_value hv29
                      obtain ⟨q_11, T⟩ := T
                      refine ⟨_, Y.ownS 0 rfl, (allc (Y.nJ 0 4 rfl rfl rfl) alln), by first | exact appB q_11 (by decide) | omega, by first | exact appM q_11 | (simp [maxLen]; omega), ?_⟩
                      intro sA6 sC6 hv30 ow fA gA gB
                      have Y : Sy _ _ hv30 [_, _, _, _, _] := Y.appS 0 rfl ([48] : List Int) ow fA gA rfl rfl
                      exact loopBack hm ⟨_, _, _, _, _, rfl, Y.pick [0, 1, 2, 3] rfl, T.1, rfl⟩ T.2
                    · exact ⟨_, _, _, _, rfl, Y.pick [0, 1, 2] rfl, T⟩
              · exact ⟨_, _, _, _, rfl, Y.pick [0, 1, 2] rfl, T⟩
            · subst hB_5
              clear T0 Y
              rintro dstA5 dstL5 dstC5 hv31 ⟨dstA5, dstL5, dstC5, dst_2, e, Y, T⟩
              cases e
              obtain rfl := Y.lenS 0 rfl
              replace T := T1 dst_2 T
              have Y : Sy _ _ _ [_, _, _] := Y
              intro hv32
              have Y : Sy _ _ hv32 [_, _, _, _] := Y.junk _
              clear_value hv32
              obtain ⟨q_12, T⟩ := T
              refine ⟨_, Y.ownS 0 rfl, (allc (Y.nJ 0 3 rfl rfl rfl) alln), by first | exact appB q_12 (by decide) | omega, by first | exact appM q_12 | (simp [maxLen]; omega), ?_⟩
              intro sA7 sC7 hv33 ow fA gA gB
              have Y : Sy _ _ hv33 [_, _, _, _] := Y.appS 0 rfl ([fmt5] : List Int) ow fA gA rfl rfl
              obtain ⟨Jv18, T0, T1⟩ := T
              obtain ⟨B_8, hB_8, _⟩ := Y.cut [] [0, 1, 2, 3] rfl
              refine ⟨fun lz h' => ∃ (exp : Int), lz = [.int .i64 exp] ∧ Sy h (owns [Ck.sl (eK .u8) 5 dstA dstV.length dstC dstV]) h' ([] ++ B_8) ∧ Jv18 exp, ?_, ?_⟩
              · subst hB_8
                replace T := T0
                clear T0 T1
                refine cnd_imp T (fun T => ?_) (fun T => ?_)
                · exact ⟨_, rfl, Y.pick [0, 1, 2, 3] rfl, T⟩
                · exact ⟨_, rfl, Y.pick [0, 1, 2, 3] rfl, T⟩
              · subst hB_8
                clear T0 Y
                rintro exp hv34 ⟨exp, e, Y, T⟩
                cases e
                replace T := T1 exp T
                have Y : Sy _ _ _ [_, _, _, _] := Y
                obtain ⟨Jv19, T0, T1⟩ := T
                obtain ⟨B_9, hB_9, _⟩ := Y.cut [] [0, 1, 2, 3] rfl
                refine ⟨fun lz h' => ∃ (ch2 : Int) (exp2 : Int), lz = [.int .u8 ch2, .int .i64 exp2] ∧ Sy h (owns [Ck.sl (eK .u8) 5 dstA dstV.length dstC dstV]) h' ([] ++ B_9) ∧ Jv19 ch2 exp2, ?_, ?_⟩
                · subst hB_9
                  replace T := T0
                  clear T0 T1
                  refine cnd_imp T (fun T => ?_) (fun T => ?_)
                  · exact ⟨_, _, rfl, Y.pick [0, 1, 2, 3] rfl, T⟩
                  · exact ⟨_, _, rfl, Y.pick [0, 1, 2, 3] rfl, T⟩
                · subst hB_9
                  clear T0 Y
                  rintro ch2 exp2 hv35 ⟨ch2, exp2, e, Y, T⟩
                  cases e
                  replace T := T1 ch2 exp2 T
                  have Y : Sy _ _ _ [_, _, _, _] := Y
                  intro hv36
                  have Y : Sy _ _ hv36 [_, _, _, _, _] := Y.junk _
                  clear_value hv36
                  obtain ⟨q_13, T⟩ := T
                  refine ⟨_, Y.ownS 0 rfl, (allc (Y.nJ 0 4 rfl rfl rfl) alln), by first | exact appB q_13 (by decide) | omega, by first | exact appM q_13 | (simp [maxLen]; omega), ?_⟩
                  intro sA8 sC8 hv37 ow fA gA gB
                  have Y : Sy _ _ hv37 [_, _, _, _, _] := Y.appS 0 rfl ([ch2] : List Int) ow fA gA rfl rfl
                  obtain ⟨Jv20, T0, T1⟩ := T
                  obtain ⟨B_10, hB_10, _⟩ := Y.cut [] [1, 2, 3, 4] rfl
                  refine ⟨fun lz h' => ∃ (dstA7 : Option Addr) (dstL7 dstC7 : Nat) (dst_5 : List Int), lz = [.slice dstA7 dstL7 dstC7] ∧ Sy h (owns [Ck.sl (eK .u8) 5 dstA dstV.length dstC dstV]) h' ([Ck.sl (eK .u8) 5 dstA7 dstL7 dstC7 dst_5] ++ B_10) ∧ Jv20 dst_5, ?_, ?_⟩
                  · subst hB_10
                    replace T := T0
                    clear T0 T1
                    refine cnd_imp T (fun T => ?_) (fun T => ?_)
                    · intro hv38
                      have Y : Sy _ _ hv38 [_, _, _, _, _, _] := Y.junk _
                      clear_value hv38
                      obtain ⟨q_14, T⟩ := T
                      refine ⟨_, Y.ownS 0 rfl, (allc (Y.nJ 0 5 rfl rfl rfl) (allc (Y.nJ 0 4 rfl rfl rfl) alln)), by first | exact appB q_14 (by decide) | omega, by first | exact appM q_14 | (simp [maxLen]; omega), ?_⟩
                      intro sA9 sC9 hv39 ow fA gA gB
                      have Y : Sy _ _ hv39 [_, _, _, _, _, _] := Y.appS 0 rfl ([48, (IntKind.u8.wrap ((IntKind.u8.wrap exp2) + (48 : Int)))] : List Int) ow fA gA rfl rfl
                      exact ⟨_, _, _, _, rfl, Y.pick [0, 1, 2, 3, 4] rfl, T⟩
                    · obtain ⟨Jv21, T0, T1⟩ := T
                      obtain ⟨B_11, hB_11, _⟩ := Y.cut [] [1, 2, 3, 4] rfl
                      refine ⟨fun lz h' => ∃ (dstA6 : Option Addr) (dstL6 dstC6 : Nat) (dst_6 : List Int), lz = [.slice dstA6 dstL6 dstC6] ∧ Sy h (owns [Ck.sl (eK .u8) 5 dstA dstV.length dstC dstV]) h' ([Ck.sl (eK .u8) 5 dstA6 dstL6 dstC6 dst_6] ++ B_11) ∧ Jv21 dst_6, ?_, ?_⟩
                      · subst hB_11
                        replace T := T0
                        clear T0 T1
                        refine cnd_imp T (fun T => ?_) (fun T => ?_)
                        · obtain ⟨q_17, T⟩ := T
                          refine ⟨q_17, ?_⟩
                          obtain ⟨q_16, T⟩ := T
                          refine ⟨q_16, ?_⟩
                          intro hv40
                          have Y : Sy _ _ hv40 [_, _, _, _, _, _] := Y.junk _
                          clear_value hv40
                          obtain ⟨q_15, T⟩ := T
                          refine ⟨_, Y.ownS 0 rfl, (allc (Y.nJ 0 5 rfl rfl rfl) (allc (Y.nJ 0 4 rfl rfl rfl) alln)), by first | exact appB q_15 (by decide) | omega, by first | exact appM q_15 | (simp [maxLen]; omega), ?_⟩
                          intro sA10 sC10 hv41 ow fA gA gB
                          have Y : Sy _ _ hv41 [_, _, _, _, _, _] := Y.appS 0 rfl ([(IntKind.u8.wrap ((IntKind.u8.wrap (IntKind.i64.wrap (Int.tdiv exp2 (10 : Int)))) + (48 : Int))), (IntKind.u8.wrap ((IntKind.u8.wrap (Int.tmod exp2 (10 : Int))) + (48 : Int)))] : List Int) ow fA gA rfl rfl
                          exact ⟨_, _, _, _, rfl, Y.pick [0, 1, 2, 3, 4] rfl, T⟩
                        · obtain ⟨q_22, T⟩ := T
                          refine ⟨q_22, ?_⟩
                          obtain ⟨q_21, T⟩ := T
                          refine ⟨q_21, ?_⟩
                          obtain ⟨q_20, T⟩ := T
                          refine ⟨q_20, ?_⟩
                          obtain ⟨q_19, T⟩ := T
                          refine ⟨q_19, ?_⟩
                          intro hv42
                          have Y : Sy _ _ hv42 [_, _, _, _, _, _] := Y.junk _
                          clear_value hv42
                          obtain ⟨q_18, T⟩ := T
                          refine ⟨_, Y.ownS 0 rfl, (allc (Y.nJ 0 5 rfl rfl rfl) (allc (Y.nJ 0 4 rfl rfl rfl) alln)), by first | exact appB q_18 (by decide) | omega, by first | exact appM q_18 | (simp [maxLen]; omega), ?_⟩
                          intro sA11 sC11 hv43 ow fA gA gB
                          have Y : Sy _ _ hv43 [_, _, _, _, _, _] := Y.appS 0 rfl ([(IntKind.u8.wrap ((IntKind.u8.wrap (IntKind.i64.wrap (Int.tdiv exp2 (100 : Int)))) + (48 : Int))), (IntKind.u8.wrap ((Int.tmod (IntKind.u8.wrap (IntKind.i64.wrap (Int.tdiv exp2 (10 : Int)))) (10 : Int)) + (48 : Int))), (IntKind.u8.wrap ((IntKind.u8.wrap (Int.tmod exp2 (10 : Int))) + (48 : Int)))] : List Int) ow fA gA rfl rfl
                          exact ⟨_, _, _, _, rfl, Y.pick [0, 1, 2, 3, 4] rfl, T⟩
                      · subst hB_11
                        clear T0 Y
                        rintro dstA6 dstL6 dstC6 hv44 ⟨dstA6, dstL6, dstC6, dst_6, e, Y, T⟩
                        cases e
                        obtain rfl := Y.lenS 0 rfl
                        replace T := T1 dst_6 T
                        have Y : Sy _ _ _ [_, _, _, _, _] := Y
                        exact ⟨_, _, _, _, rfl, Y.pick [0, 1, 2, 3, 4] rfl, T⟩
                  · subst hB_10
                    clear T0 Y
                    rintro dstA7 dstL7 dstC7 hv45 ⟨dstA7, dstL7, dstC7, dst_5, e, Y, T⟩
                    cases e
                    obtain rfl := Y.lenS 0 rfl
                    replace T := T1 dst_5 T
                    have Y : Sy _ _ _ [_, _, _, _, _] := Y
                    exact ⟨_, _, _, _, Y.pick [0] rfl, rfl, T⟩
      · refine cnd_imp T (fun T => ?_) (fun T => ?_)
        · obtain ⟨Jv22, T0, T1⟩ := T
          obtain ⟨B_12, hB_12, _⟩ := Y.cut [] [1] rfl
          refine ⟨fun lz h' => ∃ (dstA8 : Option Addr) (dstL8 dstC8 : Nat) (dst_7 : List Int), lz = [.slice dstA8 dstL8 dstC8] ∧ Sy h (owns [Ck.sl (eK .u8) 5 dstA dstV.length dstC dstV]) h' ([Ck.sl (eK .u8) 5 dstA8 dstL8 dstC8 dst_7] ++ B_12) ∧ Jv22 dst_7, ?_, ?_⟩
          · subst hB_12
            replace T := T0
            clear T0 T1
            refine cnd_imp T (fun T => ?_) (fun T => ?_)
            · intro hv46
              have Y : Sy _ _ hv46 [_, _, _] := Y.junk _
              clear_value hv46
              obtain ⟨q_23, T⟩ := T
              refine ⟨_, Y.ownS 0 rfl, (allc (Y.nJ 0 2 rfl rfl rfl) alln), by first | exact appB q_23 (by decide) | omega, by first | exact appM q_23 | (simp [maxLen]; omega), ?_⟩
              intro sA12 sC12 hv47 ow fA gA gB
              have Y : Sy _ _ hv47 [_, _, _] := Y.appS 0 rfl ([45] : List Int) ow fA gA rfl rfl
              exact ⟨_, _, _, _, rfl, Y.pick [0, 1] rfl, T⟩
            · exact ⟨_, _, _, _, rfl, Y.pick [0, 1] rfl, T⟩
          · subst hB_12
            clear T0 Y
            rintro dstA8 dstL8 dstC8 hv48 ⟨dstA8, dstL8, dstC8, dst_7, e, Y, T⟩
            cases e
            obtain rfl := Y.lenS 0 rfl
            replace T := T1 dst_7 T
            have Y : Sy _ _ _ [_, _] := Y
            obtain ⟨Jv23, T0, T1⟩ := T
            obtain ⟨B_13, hB_13, _⟩ := Y.cut [] [1] rfl
            refine ⟨fun lz h' => ∃ (dstA11 : Option Addr) (dstL11 dstC11 : Nat) (dst_8 : List Int), lz = [.slice dstA11 dstL11 dstC11] ∧ Sy h (owns [Ck.sl (eK .u8) 5 dstA dstV.length dstC dstV]) h' ([Ck.sl (eK .u8) 5 dstA11 dstL11 dstC11 dst_8] ++ B_13) ∧ Jv23 dst_8, ?_, ?_⟩
            · subst hB_13
              replace T := T0
              clear T0 T1
              refine cnd_imp T (fun T => ?_) (fun T => ?_)
              · obtain ⟨q_24, q_25, T⟩ := T
                refine ⟨q_24, (by have := (Y.capV 1 rfl).1; omega), ?_⟩
                try rw [slice0]
                obtain ⟨Iv2, m2, T0, T1⟩ := T
                obtain ⟨B_14, hB_14, YB⟩ := Y.cut [0] [1] rfl
                obtain ⟨JJ_2, hJJ_2⟩ : ∃ JJ_2 : Nat → List Value → Heap → Prop, JJ_2 = (fun k_2 lz h' => ∃ (dstA9 : Option Addr) (dstL9 dstC9 : Nat) (dst_9 : List Int) (x4 : Int), lz = [.slice dstA9 dstL9 dstC9, .int .i64 x4] ∧ Sy h (owns [Ck.sl (eK .u8) 5 dstA dstV.length dstC dstV]) h' ([Ck.sl (eK .u8) 5 dstA9 dstL9 dstC9 dst_9] ++ B_14) ∧ Iv2 dst_9 x4 ∧ m2 dst_9 x4 = k_2) := ⟨_, rfl⟩
                refine ⟨fun lz h' => ∃ k_2, JJ_2 k_2 lz h', Lm JJ_2, ?_, ?_⟩
                · subst hJJ_2 hB_14
                  exact ⟨_, _, _, _, _, _, rfl, YB, T0, rfl⟩
                · clear YB T0 Y
                  intro dstA9 dstL9 dstC9 x4 hv49 hI
                  obtain ⟨k_2, hI, hm_2⟩ := loopIn hI
                  subst hJJ_2 hB_14
                  obtain ⟨dstA9, dstL9, dstC9, dst_9, x4, e, Y, T, rfl⟩ := hI
                  cases e
                  obtain rfl := Y.lenS 0 rfl
                  replace T := T1 dst_9 x4 T
                  have Y : Sy _ _ _ [_, _] := Y
                  refine cnd_imp T (fun T => ?_) (fun T => ?_)
                  · obtain ⟨q_26, q_27, T⟩ := T
                    obtain ⟨b_3, o_3, hb_2, x_2, hx_2, hC⟩ := readsAt ((Y.readsV 1 rfl).takeR (Int.toNat (if dp < nd then dp else nd)) (by omega)) q_26 q_27
                    refine ⟨b_3, o_3, hb_2, q_26, q_27, ?_⟩
                    replace T := T x_2 hx_2
                    refine ⟨_, hC 0 _ rfl, ?_⟩
                    intro hv50
                    have Y : Sy _ _ hv50 [_, _, _] := Y.junk _
                    clear_value hv50
                    obtain ⟨q_28, T⟩ := T
                    refine ⟨_, Y.ownS 0 rfl, (allc (Y.nJ 0 2 rfl rfl rfl) alln), by first | exact appB q_28 (by decide) | omega, by first | exact appM q_28 | (simp [maxLen]; omega), ?_⟩
                    intro sA13 sC13 hv51 ow fA gA gB
                    have Y : Sy _ _ hv51 [_, _, _] := Y.appS 0 rfl ([x_2] : List Int) ow fA gA rfl rfl
                    exact loopBack hm_2 ⟨_, _, _, _, _, rfl, Y.pick [0, 1] rfl, T.1, rfl⟩ T.2
                  · obtain ⟨Iv3, m3, T0, T1⟩ := T
                    obtain ⟨B_15, hB_15, YB⟩ := Y.cut [0] [1] rfl
                    obtain ⟨JJ_3, hJJ_3⟩ : ∃ JJ_3 : Nat → List Value → Heap → Prop, JJ_3 = (fun k_3 lz h' => ∃ (dstA10 : Option Addr) (dstL10 dstC10 : Nat) (dst_10 : List Int) (x6 : Int), lz = [.slice dstA10 dstL10 dstC10, .int .i64 x6] ∧ Sy h (owns [Ck.sl (eK .u8) 5 dstA dstV.length dstC dstV]) h' ([Ck.sl (eK .u8) 5 dstA10 dstL10 dstC10 dst_10] ++ B_15) ∧ Iv3 dst_10 x6 ∧ m3 dst_10 x6 = k_3) := ⟨_, rfl⟩
                    refine ⟨fun lz h' => ∃ k_3, JJ_3 k_3 lz h', Lm JJ_3, ?_, ?_⟩
                    · subst hJJ_3 hB_15
                      exact ⟨_, _, _, _, _, _, rfl, YB, T0, rfl⟩
                    · clear YB T0 Y
                      intro dstA10 dstL10 dstC10 x6 hv52 hI
                      obtain ⟨k_3, hI, hm_3⟩ := loopIn hI
                      subst hJJ_3 hB_15
                      obtain ⟨dstA10, dstL10, dstC10, dst_10, x6, e, Y, T, rfl⟩ := hI
                      cases e
                      obtain rfl := Y.lenS 0 rfl
                      replace T := T1 dst_10 x6 T
                      have Y : Sy _ _ _ [_, _] := Y
                      refine cnd_imp T (fun T => ?_) (fun T => ?_)
                      · intro hv53
                        have Y : Sy _ _ hv53 [_, _, _] := Y.junk _
                        clear_value hv53
                        obtain ⟨q_29, T⟩ := T
                        refine ⟨_, Y.ownS 0 rfl, (allc (Y.nJ 0 2 rfl rfl rfl) alln), by first | exact appB q_29 (by decide) | omega, by first | exact appM q_29 | (simp [maxLen]; omega), ?_⟩
                        intro sA14 sC14 hv54 ow fA gA gB
                        have Y : Sy _ _ hv54 [_, _, _] := Y.appS 0 rfl ([48] : List Int) ow fA gA rfl rfl
                        exact loopBack hm_3 ⟨_, _, _, _, _, rfl, Y.pick [0, 1] rfl, T.1, rfl⟩ T.2
                      · exact ⟨_, _, _, _, rfl, Y.pick [0, 1] rfl, T⟩
              · intro hv55
                have Y : Sy _ _ hv55 [_, _, _] := Y.junk _
                clear_value hv55
                obtain ⟨q_30, T⟩ := T
                refine ⟨_, Y.ownS 0 rfl, (allc (Y.nJ 0 2 rfl rfl rfl) alln), by first | exact appB q_30 (by decide) | omega, by first | exact appM q_30 | (simp [maxLen]; omega), ?_⟩
                intro sA15 sC15 hv56 ow fA gA gB
                have Y : Sy _ _ hv56 [_, _, _] := Y.appS 0 rfl ([48] : List Int) ow fA gA rfl rfl
                exact ⟨_, _, _, _, rfl, Y.pick [0, 1] rfl, T⟩
            · subst hB_13
              clear T0 Y
              rintro dstA11 dstL11 dstC11 hv57 ⟨dstA11, dstL11, dstC11, dst_8, e, Y, T⟩
              cases e
              obtain rfl := Y.lenS 0 rfl
              replace T := T1 dst_8 T
              have Y : Sy _ _ _ [_, _] := Y
              obtain ⟨Jv24, T0, T1⟩ := T
              obtain ⟨B_16, hB_16, _⟩ := Y.cut [] [1] rfl
              refine ⟨fun lz h' => ∃ (dstA15 : Option Addr) (dstL15 dstC15 : Nat) (dst_11 : List Int), lz = [.slice dstA15 dstL15 dstC15] ∧ Sy h (owns [Ck.sl (eK .u8) 5 dstA dstV.length dstC dstV]) h' ([Ck.sl (eK .u8) 5 dstA15 dstL15 dstC15 dst_11] ++ B_16) ∧ Jv24 dst_11, ?_, ?_⟩
              · subst hB_16
                replace T := T0
                clear T0 T1
                refine cnd_imp T (fun T => ?_) (fun T => ?_)
                · intro hv58
                  have Y : Sy _ _ hv58 [_, _, _] := Y.junk _
                  clear_value hv58
                  obtain ⟨q_31, T⟩ := T
                  refine ⟨_, Y.ownS 0 rfl, (allc (Y.nJ 0 2 rfl rfl rfl) alln), by first | exact appB q_31 (by decide) | omega, by first | exact appM q_31 | (simp [maxLen]; omega), ?_⟩
                  intro sA16 sC16 hv59 ow fA gA gB
                  have Y : Sy _ _ hv59 [_, _, _] := Y.appS 0 rfl ([46] : List Int) ow fA gA rfl rfl
                  obtain ⟨Iv4, m4, T0, T1⟩ := T
                  obtain ⟨B_17, hB_17, YB⟩ := Y.cut [0] [1, 2] rfl
                  obtain ⟨JJ_4, hJJ_4⟩ : ∃ JJ_4 : Nat → List Value → Heap → Prop, JJ_4 = (fun k_4 lz h' => ∃ (dstA12 : Option Addr) (dstL12 dstC12 : Nat) (dst_12 : List Int) (x7 : Int), lz = [.slice dstA12 dstL12 dstC12, .int .i64 x7] ∧ Sy h (owns [Ck.sl (eK .u8) 5 dstA dstV.length dstC dstV]) h' ([Ck.sl (eK .u8) 5 dstA12 dstL12 dstC12 dst_12] ++ B_17) ∧ Iv4 dst_12 x7 ∧ m4 dst_12 x7 = k_4) := ⟨_, rfl⟩
                  refine ⟨fun lz h' => ∃ k_4, JJ_4 k_4 lz h', Lm JJ_4, ?_, ?_⟩
                  · subst hJJ_4 hB_17
                    exact ⟨_, _, _, _, _, _, rfl, YB, T0, rfl⟩
                  · clear YB T0 Y
                    intro dstA12 dstL12 dstC12 x7 hv60 hI
                    obtain ⟨k_4, hI, hm_4⟩ := loopIn hI
                    subst hJJ_4 hB_17
                    obtain ⟨dstA12, dstL12, dstC12, dst_12, x7, e, Y, T, rfl⟩ := hI
                    cases e
                    obtain rfl := Y.lenS 0 rfl
                    replace T := T1 dst_12 x7 T
                    have Y : Sy _ _ _ [_, _, _] := Y
                    refine cnd_imp T (fun T => ?_) (fun T => ?_)
                    · intro hv61
                      have Y : Sy _ _ hv61 [_, _, _, _] := Y.junk _
                      clear_value hv61
                      obtain ⟨q_32, T⟩ := T
                      refine ⟨_, Y.ownS 0 rfl, (allc (Y.nJ 0 3 rfl rfl rfl) alln), by first | exact appB q_32 (by decide) | omega, by first | exact appM q_32 | (simp [maxLen]; omega), ?_⟩
                      intro sA17 sC17 hv62 ow fA gA gB
                      have Y : Sy _ _ hv62 [_, _, _, _] := Y.appS 0 rfl ([48] : List Int) ow fA gA rfl rfl
                      exact loopBack hm_4 ⟨_, _, _, _, _, rfl, Y.pick [0, 1, 2] rfl, T.1, rfl⟩ T.2
                    · obtain ⟨Iv5, m5, T0, T1⟩ := T
                      obtain ⟨B_18, hB_18, YB⟩ := Y.cut [0] [1, 2] rfl
                      obtain ⟨JJ_5, hJJ_5⟩ : ∃ JJ_5 : Nat → List Value → Heap → Prop, JJ_5 = (fun k_5 lz h' => ∃ (dstA13 : Option Addr) (dstL13 dstC13 : Nat) (dst_13 : List Int) (x8 : Int), lz = [.slice dstA13 dstL13 dstC13, .int .i64 x8] ∧ Sy h (owns [Ck.sl (eK .u8) 5 dstA dstV.length dstC dstV]) h' ([Ck.sl (eK .u8) 5 dstA13 dstL13 dstC13 dst_13] ++ B_18) ∧ Iv5 dst_13 x8 ∧ m5 dst_13 x8 = k_5) := ⟨_, rfl⟩
                      refine ⟨fun lz h' => ∃ k_5, JJ_5 k_5 lz h', Lm JJ_5, ?_, ?_⟩
                      · subst hJJ_5 hB_18
                        exact ⟨_, _, _, _, _, _, rfl, YB, T0, rfl⟩
                      · clear YB T0 Y
                        intro dstA13 dstL13 dstC13 x8 hv63 hI
                        obtain ⟨k_5, hI, hm_5⟩ := loopIn hI
                        subst hJJ_5 hB_18
                        obtain ⟨dstA13, dstL13, dstC13, dst_13, x8, e, Y, T, rfl⟩ := hI
                        cases e
                        obtain rfl := Y.lenS 0 rfl
                        replace T := T1 dst_13 x8 T
                        have Y : Sy _ _ _ [_, _, _] := Y
                        refine cnd_imp T (fun T => ?_) (fun T => ?_)
                        · obtain ⟨q_33, q_34, T⟩ := T
                          obtain ⟨b_4, o_4, hb_3, hr_2, s_2, hx_3⟩ := Y.atV 1 rfl q_33 q_34
                          refine ⟨b_4, o_4, hb_3, q_33, q_34, ?_⟩
                          replace T := T s_2 hx_3
                          refine ⟨_, Y.cellV 1 rfl hb_3 (t := 0) hx_3 rfl, ?_⟩
                          intro hv64
                          have Y : Sy _ _ hv64 [_, _, _, _] := Y.junk _
                          clear_value hv64
                          obtain ⟨q_35, T⟩ := T
                          refine ⟨_, Y.ownS 0 rfl, (allc (Y.nJ 0 3 rfl rfl rfl) alln), by first | exact appB q_35 (by decide) | omega, by first | exact appM q_35 | (simp [maxLen]; omega), ?_⟩
                          intro sA18 sC18 hv65 ow fA gA gB
                          have Y : Sy _ _ hv65 [_, _, _, _] := Y.appS 0 rfl ([s_2] : List Int) ow fA gA rfl rfl
                          exact loopBack hm_5 ⟨_, _, _, _, _, rfl, Y.pick [0, 1, 2] rfl, T.1, rfl⟩ T.2
                        · obtain ⟨Iv6, m6, T0, T1⟩ := T
                          obtain ⟨B_19, hB_19, YB⟩ := Y.cut [0] [1, 2] rfl
                          obtain ⟨JJ_6, hJJ_6⟩ : ∃ JJ_6 : Nat → List Value → Heap → Prop, JJ_6 = (fun k_6 lz h' => ∃ (dstA14 : Option Addr) (dstL14 dstC14 : Nat) (dst_14 : List Int) (x10 : Int), lz = [.slice dstA14 dstL14 dstC14, .int .i64 x10] ∧ Sy h (owns [Ck.sl (eK .u8) 5 dstA dstV.length dstC dstV]) h' ([Ck.sl (eK .u8) 5 dstA14 dstL14 dstC14 dst_14] ++ B_19) ∧ Iv6 dst_14 x10 ∧ m6 dst_14 x10 = k_6) := ⟨_, rfl⟩
                          refine ⟨fun lz h' => ∃ k_6, JJ_6 k_6 lz h', Lm JJ_6, ?_, ?_⟩
                          · subst hJJ_6 hB_19
                            exact ⟨_, _, _, _, _, _, rfl, YB, T0, rfl⟩
                          · clear YB T0 Y
                            intro dstA14 dstL14 dstC14 x10 hv66 hI
                            obtain ⟨k_6, hI, hm_6⟩ := loopIn hI
                            subst hJJ_6 hB_19
                            obtain ⟨dstA14, dstL14, dstC14, dst_14, x10, e, Y, T, rfl⟩ := hI
                            cases e
                            obtain rfl := Y.lenS 0 rfl
                            replace T := T1 dst_14 x10 T
                            have Y : Sy _ _ _ [_, _, _] := Y
                            refine cnd_imp T (fun T => ?_) (fun T => ?_)
                            · intro hv67
                              have Y : Sy _ _ hv67 [_, _, _, _] := Y.junk _
                              clear_value hv67
                              obtain ⟨q_36, T⟩ := T
                              refine ⟨_, Y.ownS 0 rfl, (allc (Y.nJ 0 3 rfl rfl rfl) alln), by first | exact appB q_36 (by decide) | omega, by first | exact appM q_36 | (simp [maxLen]; omega), ?_⟩
                              intro sA19 sC19 hv68 ow fA gA gB
                              have Y : Sy _ _ hv68 [_, _, _, _] := Y.appS 0 rfl ([48] : List Int) ow fA gA rfl rfl
                              exact loopBack hm_6 ⟨_, _, _, _, _, rfl, Y.pick [0, 1, 2] rfl, T.1, rfl⟩ T.2
                            · exact ⟨_, _, _, _, rfl, Y.pick [0, 1] rfl, T⟩
                · exact ⟨_, _, _, _, rfl, Y.pick [0, 1] rfl, T⟩
              · subst hB_16
                clear T0 Y
                rintro dstA15 dstL15 dstC15 hv69 ⟨dstA15, dstL15, dstC15, dst_11, e, Y, T⟩
                cases e
                obtain rfl := Y.lenS 0 rfl
                replace T := T1 dst_11 T
                have Y : Sy _ _ _ [_, _] := Y
                exact ⟨_, _, _, _, Y.pick [0] rfl, rfl, T⟩
        · intro hv70
          have Y : Sy _ _ hv70 [_, _, _] := Y.junk _
          clear_value hv70
          obtain ⟨q_37, T⟩ := T
          refine ⟨_, Y.ownS 0 rfl, (allc (Y.nJ 0 2 rfl rfl rfl) alln), by first | exact appB q_37 (by decide) | omega, by first | exact appM q_37 | (simp [maxLen]; omega), ?_⟩
          intro sA20 sC20 hv71 ow fA gA gB
          have Y : Sy _ _ hv71 [_, _, _] := Y.appS 0 rfl ([37, fmt5] : List Int) ow fA gA rfl rfl
          exact ⟨_, _, _, _, Y.pick [0] rfl, rfl, T⟩
    subst hB_2
    replace T := T0
    clear T0 T1
    refine cnd_imp T (fun T => ?_) (fun T => ?_)
    · exact hK4 _ _ ⟨Y.pick [0, 1] rfl, T⟩
    · exact hK4 _ _ ⟨Y.pick [0, 1] rfl, T⟩
  subst hB
  replace T := T0
  clear T0 T1
  refine cnd_imp T (fun T => ?_) (fun T => ?_)
  · obtain ⟨Jv_4, T0, T1⟩ := T
    obtain ⟨B_20, hB_20, _⟩ := Y.cut [] [0, 1] rfl
    intro K
    have hK : ∀ (eprec2 : Int) (hv2 : Heap), (Sy h (owns [Ck.sl (eK .u8) 5 dstA dstV.length dstC dstV]) hv2 ([] ++ B_20) ∧ Jv_4 eprec2) → K eprec2 hv2 := by
      subst hB_20
      clear T0 Y
      rintro eprec2 hv2 ⟨Y, T⟩
      replace T := T1 eprec2 T
      have Y : Sy _ _ _ [_, _] := Y
      unfold K
      obtain ⟨Jv2, T0, T1⟩ := T
      obtain ⟨B_21, hB_21, _⟩ := Y.cut [] [0, 1] rfl
      refine ⟨fun lz h' => ∃ (eprec3 : Int), lz = [.int .i64 eprec3] ∧ Sy h (owns [Ck.sl (eK .u8) 5 dstA dstV.length dstC dstV]) h' ([] ++ B_21) ∧ Jv2 eprec3, ?_, ?_⟩
      · subst hB_21
        replace T := T0
        clear T0 T1
        refine cnd_imp T (fun T => ?_) (fun T => ?_)
        · exact ⟨_, rfl, Y.pick [0, 1] rfl, T⟩
        · exact ⟨_, rfl, Y.pick [0, 1] rfl, T⟩
      · subst hB_21
        clear T0 Y
        rintro eprec3 hv3 ⟨eprec3, e, Y, T⟩
        cases e
        replace T := T1 eprec3 T
        have Y : Sy _ _ _ [_, _] := Y
        refine cnd_imp T (fun T => ?_) (fun T => ?_)
        · obtain ⟨Jv3, T0, T1⟩ := T
          obtain ⟨B_22, hB_22, _⟩ := Y.cut [] [0, 1] rfl
          refine ⟨fun lz h' => ∃ (prec2 : Int), lz = [.int .i64 prec2] ∧ Sy h (owns [Ck.sl (eK .u8) 5 dstA dstV.length dstC dstV]) h' ([] ++ B_22) ∧ Jv3 prec2, ?_, ?_⟩
          · subst hB_22
            replace T := T0
            clear T0 T1
            refine cnd_imp T (fun T => ?_) (fun T => ?_)
            · exact ⟨_, rfl, Y.pick [0, 1] rfl, T⟩
            · exact ⟨_, rfl, Y.pick [0, 1] rfl, T⟩
          · subst hB_22
            clear T0 Y
            rintro prec2 hv4 ⟨prec2, e, Y, T⟩
            cases e
            replace T := T1 prec2 T
            have Y : Sy _ _ _ [_, _] := Y
            exact hK3 _ _ _ ⟨Y.pick [0, 1] rfl, T⟩
        · obtain ⟨Jv4, T0, T1⟩ := T
          obtain ⟨B_23, hB_23, _⟩ := Y.cut [] [0, 1] rfl
          refine ⟨fun lz h' => ∃ (prec5 : Int) (fmt2 : Int), lz = [.int .i64 prec5, .int .u8 fmt2] ∧ Sy h (owns [Ck.sl (eK .u8) 5 dstA dstV.length dstC dstV]) h' ([] ++ B_23) ∧ Jv4 prec5 fmt2, ?_, ?_⟩
          · subst hB_23
            replace T := T0
            clear T0 T1
            refine cnd_imp T (fun T => ?_) (fun T => ?_)
            · obtain ⟨Jv5, T0, T1⟩ := T
              obtain ⟨B_24, hB_24, _⟩ := Y.cut [] [0, 1] rfl
              refine ⟨fun lz h' => ∃ (prec3 : Int), lz = [.int .i64 prec3] ∧ Sy h (owns [Ck.sl (eK .u8) 5 dstA dstV.length dstC dstV]) h' ([] ++ B_24) ∧ Jv5 prec3, ?_, ?_⟩
              · subst hB_24
                replace T := T0
                clear T0 T1
                refine cnd_imp T (fun T => ?_) (fun T => ?_)
                · exact ⟨_, rfl, Y.pick [0, 1] rfl, T⟩
                · exact ⟨_, rfl, Y.pick [0, 1] rfl, T⟩
              · subst hB_24
                clear T0 Y
                rintro prec3 hv5 ⟨prec3, e, Y, T⟩
                cases e
                replace T := T1 prec3 T
                have Y : Sy _ _ _ [_, _] := Y
                exact ⟨_, _, rfl, Y.pick [0, 1] rfl, T⟩
            · obtain ⟨Jv6, T0, T1⟩ := T
              obtain ⟨B_25, hB_25, _⟩ := Y.cut [] [0, 1] rfl
              refine ⟨fun lz h' => ∃ (prec4 : Int), lz = [.int .i64 prec4] ∧ Sy h (owns [Ck.sl (eK .u8) 5 dstA dstV.length dstC dstV]) h' ([] ++ B_25) ∧ Jv6 prec4, ?_, ?_⟩
              · subst hB_25
                replace T := T0
                clear T0 T1
                refine cnd_imp T (fun T => ?_) (fun T => ?_)
                · exact ⟨_, rfl, Y.pick [0, 1] rfl, T⟩
                · exact ⟨_, rfl, Y.pick [0, 1] rfl, T⟩
              · subst hB_25
                clear T0 Y
                rintro prec4 hv6 ⟨prec4, e, Y, T⟩
                cases e
                replace T := T1 prec4 T
                have Y : Sy _ _ _ [_, _] := Y
                exact ⟨_, _, rfl, Y.pick [0, 1] rfl, T⟩
          · subst hB_23
            clear T0 Y
            rintro prec5 fmt2 hv7 ⟨prec5, fmt2, e, Y, T⟩
            cases e
            replace T := T1 prec5 fmt2 T
            have Y : Sy _ _ _ [_, _] := Y
            exact hK3 _ _ _ ⟨Y.pick [0, 1] rfl, T⟩
    subst hB_20
    replace T := T0
    clear T0 T1
    refine cnd_imp T (fun T => ?_) (fun T => ?_)
    · obtain ⟨Jv, T0, T1⟩ := T
      obtain ⟨B_26, hB_26, _⟩ := Y.cut [] [0, 1] rfl
      refine ⟨fun lz h' => ∃ (eprec : Int), lz = [.int .i64 eprec] ∧ Sy h (owns [Ck.sl (eK .u8) 5 dstA dstV.length dstC dstV]) h' ([] ++ B_26) ∧ Jv eprec, ?_, ?_⟩
      · subst hB_26
        replace T := T0
        clear T0 T1
        refine cnd_imp T (fun T => ?_) (fun T => ?_)
        · exact ⟨_, rfl, Y.pick [0, 1] rfl, T⟩
        · exact ⟨_, rfl, Y.pick [0, 1] rfl, T⟩
      · subst hB_26
        clear T0 Y
        rintro eprec hv ⟨eprec, e, Y, T⟩
        cases e
        replace T := T1 eprec T
        have Y : Sy _ _ _ [_, _] := Y
        exact hK _ _ ⟨Y.pick [0, 1] rfl, T⟩
    · exact hK _ _ ⟨Y.pick [0, 1] rfl, T⟩
  · obtain ⟨Jv7, T0, T1⟩ := T
    obtain ⟨B_27, hB_27, _⟩ := Y.cut [] [0, 1] rfl
    refine ⟨fun lz h' => ∃ (prec10 : Int) (fmt4 : Int), lz = [.int .i64 prec10, .int .u8 fmt4] ∧ Sy h (owns [Ck.sl (eK .u8) 5 dstA dstV.length dstC dstV]) h' ([] ++ B_27) ∧ Jv7 prec10 fmt4, ?_, ?_⟩
    · subst hB_27
      replace T := T0
      clear T0 T1
      refine cnd_imp T (fun T => ?_) (fun T => ?_)
      · obtain ⟨Jv_5, T0, T1⟩ := T
        obtain ⟨B_28, hB_28, _⟩ := Y.cut [] [0, 1] rfl
        intro K2
        have hK2 : ∀ (eprec5 : Int) (hv9 : Heap), (Sy h (owns [Ck.sl (eK .u8) 5 dstA dstV.length dstC dstV]) hv9 ([] ++ B_28) ∧ Jv_5 eprec5) → K2 eprec5 hv9 := by
          subst hB_28
          clear T0 Y
          rintro eprec5 hv9 ⟨Y, T⟩
          replace T := T1 eprec5 T
          have Y : Sy _ _ _ [_, _] := Y
          unfold K2
          obtain ⟨Jv9, T0, T1⟩ := T
          obtain ⟨B_29, hB_29, _⟩ := Y.cut [] [0, 1] rfl
          refine ⟨fun lz h' => ∃ (eprec6 : Int), lz = [.int .i64 eprec6] ∧ Sy h (owns [Ck.sl (eK .u8) 5 dstA dstV.length dstC dstV]) h' ([] ++ B_29) ∧ Jv9 eprec6, ?_, ?_⟩
          · subst hB_29
            replace T := T0
            clear T0 T1
            refine cnd_imp T (fun T => ?_) (fun T => ?_)
            · exact ⟨_, rfl, Y.pick [0, 1] rfl, T⟩
            · exact ⟨_, rfl, Y.pick [0, 1] rfl, T⟩
          · subst hB_29
            clear T0 Y
            rintro eprec6 hv10 ⟨eprec6, e, Y, T⟩
            cases e
            replace T := T1 eprec6 T
            have Y : Sy _ _ _ [_, _] := Y
            refine cnd_imp T (fun T => ?_) (fun T => ?_)
            · obtain ⟨Jv10, T0, T1⟩ := T
              obtain ⟨B_30, hB_30, _⟩ := Y.cut [] [0, 1] rfl
              refine ⟨fun lz h' => ∃ (prec6 : Int), lz = [.int .i64 prec6] ∧ Sy h (owns [Ck.sl (eK .u8) 5 dstA dstV.length dstC dstV]) h' ([] ++ B_30) ∧ Jv10 prec6, ?_, ?_⟩
              · subst hB_30
                replace T := T0
                clear T0 T1
                refine cnd_imp T (fun T => ?_) (fun T => ?_)
                · exact ⟨_, rfl, Y.pick [0, 1] rfl, T⟩
                · exact ⟨_, rfl, Y.pick [0, 1] rfl, T⟩
              · subst hB_30
                clear T0 Y
                rintro prec6 hv11 ⟨prec6, e, Y, T⟩
                cases e
                replace T := T1 prec6 T
                have Y : Sy _ _ _ [_, _] := Y
                exact ⟨_, _, rfl, Y.pick [0, 1] rfl, T⟩
            · obtain ⟨Jv11, T0, T1⟩ := T
              obtain ⟨B_31, hB_31, _⟩ := Y.cut [] [0, 1] rfl
              refine ⟨fun lz h' => ∃ (prec9 : Int) (fmt3 : Int), lz = [.int .i64 prec9, .int .u8 fmt3] ∧ Sy h (owns [Ck.sl (eK .u8) 5 dstA dstV.length dstC dstV]) h' ([] ++ B_31) ∧ Jv11 prec9 fmt3, ?_, ?_⟩
              · subst hB_31
                replace T := T0
                clear T0 T1
                refine cnd_imp T (fun T => ?_) (fun T => ?_)
                · obtain ⟨Jv12, T0, T1⟩ := T
                  obtain ⟨B_32, hB_32, _⟩ := Y.cut [] [0, 1] rfl
                  refine ⟨fun lz h' => ∃ (prec7 : Int), lz = [.int .i64 prec7] ∧ Sy h (owns [Ck.sl (eK .u8) 5 dstA dstV.length dstC dstV]) h' ([] ++ B_32) ∧ Jv12 prec7, ?_, ?_⟩
                  · subst hB_32
                    replace T := T0
                    clear T0 T1
                    refine cnd_imp T (fun T => ?_) (fun T => ?_)
                    · exact ⟨_, rfl, Y.pick [0, 1] rfl, T⟩
                    · exact ⟨_, rfl, Y.pick [0, 1] rfl, T⟩
                  · subst hB_32
                    clear T0 Y
                    rintro prec7 hv12 ⟨prec7, e, Y, T⟩
                    cases e
                    replace T := T1 prec7 T
                    have Y : Sy _ _ _ [_, _] := Y
                    exact ⟨_, _, rfl, Y.pick [0, 1] rfl, T⟩
                · obtain ⟨Jv13, T0, T1⟩ := T
                  obtain ⟨B_33, hB_33, _⟩ := Y.cut [] [0, 1] rfl
                  refine ⟨fun lz h' => ∃ (prec8 : Int), lz = [.int .i64 prec8] ∧ Sy h (owns [Ck.sl (eK .u8) 5 dstA dstV.length dstC dstV]) h' ([] ++ B_33) ∧ Jv13 prec8, ?_, ?_⟩
                  · subst hB_33
                    replace T := T0
                    clear T0 T1
                    refine cnd_imp T (fun T => ?_) (fun T => ?_)
                    · exact ⟨_, rfl, Y.pick [0, 1] rfl, T⟩
                    · exact ⟨_, rfl, Y.pick [0, 1] rfl, T⟩
                  · subst hB_33
                    clear T0 Y
                    rintro prec8 hv13 ⟨prec8, e, Y, T⟩
                    cases e
                    replace T := T1 prec8 T
                    have Y : Sy _ _ _ [_, _] := Y
                    exact ⟨_, _, rfl, Y.pick [0, 1] rfl, T⟩
              · subst hB_31
                clear T0 Y
                rintro prec9 fmt3 hv14 ⟨prec9, fmt3, e, Y, T⟩
                cases e
                replace T := T1 prec9 fmt3 T
                have Y : Sy _ _ _ [_, _] := Y
                exact ⟨_, _, rfl, Y.pick [0, 1] rfl, T⟩
        subst hB_28
        replace T := T0
        clear T0 T1
        refine cnd_imp T (fun T => ?_) (fun T => ?_)
        · obtain ⟨Jv8, T0, T1⟩ := T
          obtain ⟨B_34, hB_34, _⟩ := Y.cut [] [0, 1] rfl
          refine ⟨fun lz h' => ∃ (eprec4 : Int), lz = [.int .i64 eprec4] ∧ Sy h (owns [Ck.sl (eK .u8) 5 dstA dstV.length dstC dstV]) h' ([] ++ B_34) ∧ Jv8 eprec4, ?_, ?_⟩
          · subst hB_34
            replace T := T0
            clear T0 T1
            refine cnd_imp T (fun T => ?_) (fun T => ?_)
            · exact ⟨_, rfl, Y.pick [0, 1] rfl, T⟩
            · exact ⟨_, rfl, Y.pick [0, 1] rfl, T⟩
          · subst hB_34
            clear T0 Y
            rintro eprec4 hv8 ⟨eprec4, e, Y, T⟩
            cases e
            replace T := T1 eprec4 T
            have Y : Sy _ _ _ [_, _] := Y
            exact hK2 _ _ ⟨Y.pick [0, 1] rfl, T⟩
        · exact hK2 _ _ ⟨Y.pick [0, 1] rfl, T⟩
      · exact ⟨_, _, rfl, Y.pick [0, 1] rfl, T⟩
    · subst hB_27
      clear T0 Y
      rintro prec10 fmt4 hv15 ⟨prec10, fmt4, e, Y, T⟩
      cases e
      replace T := T1 prec10 fmt4 T
      have Y : Sy _ _ _ [_, _] := Y
      exact hK3 _ _ _ ⟨Y.pick [0, 1] rfl, T⟩
/-- internal/strconv.ftoa64 -/
def S49 (dstA : Option Addr) (dstL dstC : Nat) (val : Nat) (fmt : Int) (prec : Int) (h : Heap) (R : Value → Heap → Prop) : Prop :=
  ∃ Jv : List Value → Heap → Prop,
  ( cnd ((64 : Int) == (32 : Int))
   (False)
   (∃ Jv2 : List Value → Heap → Prop,
   ( cnd ((64 : Int) == (64 : Int))
     (callE Tryz.prog 60 #[.float .f64 val] fun v =>
     ∃ r : Int, v = .int .u64 r ∧
     Jv2 [.int .u64 r, .int .i64 11, .int .i64 52, .int .i64 (-1023)] h)
     (Jv2 [.int .u64 0, .int .i64 0, .int .i64 0, .int .i64 0] h)) ∧
   ∀ b : Int, ∀ expBits : Int, ∀ mantBits : Int, ∀ bias : Int, ∀ hv, Jv2 [.int .u64 b, .int .i64 expBits, .int .i64 mantBits, .int .i64 bias] hv →
   Jv [.int .u64 b, .int .i64 expBits, .int .i64 mantBits, .int .i64 bias] hv)) ∧
  ∀ b2 : Int, ∀ expBits2 : Int, ∀ mantBits2 : Int, ∀ bias2 : Int, ∀ hv2, Jv [.int .u64 b2, .int .i64 expBits2, .int .i64 mantBits2, .int .i64 bias2] hv2 →
  0 ≤ (IntKind.i64.wrap (expBits2 + mantBits2)) ∧ 0 ≤ mantBits2 ∧ 0 ≤ expBits2 ∧ 0 ≤ mantBits2 ∧ 0 ≤ expBits2 ∧ cnd ((bits .and .i64 (IntKind.i64.wrap (Int.fdiv b2 (2 ^ (min (Int.toNat mantBits2) 64)))) (IntKind.i64.wrap ((IntKind.i64.wrap ((1 : Int) * 2 ^ (min (Int.toNat expBits2) 64))) - (1 : Int)))) == (IntKind.i64.wrap ((IntKind.i64.wrap ((1 : Int) * 2 ^ (min (Int.toNat expBits2) 64))) - (1 : Int))))
   (cnd ((bits .and .u64 b2 (IntKind.u64.wrap ((IntKind.u64.wrap ((1 : Int) * 2 ^ (min (Int.toNat mantBits2) 64))) - (1 : Int)))) != (0 : Int))
    (∃ old, Ownd hv2 5 1 dstA dstL dstC old ∧ (∀ b ∈ ([] : List Nat), b ∉ blkOf dstA) ∧ (dstL + (⟨#[78, 97, 78]⟩ : ByteArray).size) * 1 ≤ 140737488355328 ∧ (dstL + (⟨#[78, 97, 78]⟩ : ByteArray).size) ≤ maxLen ∧
    ∀ sA sC hv3, Ownd hv3 5 1 sA (dstL + (⟨#[78, 97, 78]⟩ : ByteArray).size) sC (old ++ (Lib.strCells (⟨#[78, 97, 78]⟩ : ByteArray))) → Fr (blkOf dstA) hv2 hv3 → ((sA = dstA ∧ sC = dstC) ∨ ∃ g, sA = some ⟨g, 0, none⟩ ∧ hv2.size ≤ g) → (dstC < (dstL + (⟨#[78, 97, 78]⟩ : ByteArray).size) → Fr [] hv2 hv3) →
    R (.slice sA (dstL + (⟨#[78, 97, 78]⟩ : ByteArray).size) sC) hv3)
    (cnd ((Int.fdiv b2 (2 ^ (min (Int.toNat (IntKind.i64.wrap (expBits2 + mantBits2))) 64))) != (0 : Int))
     (∃ old2, Ownd hv2 5 1 dstA dstL dstC old2 ∧ (∀ b ∈ ([] : List Nat), b ∉ blkOf dstA) ∧ (dstL + (⟨#[45, 73, 110, 102]⟩ : ByteArray).size) * 1 ≤ 140737488355328 ∧ (dstL + (⟨#[45, 73, 110, 102]⟩ : ByteArray).size) ≤ maxLen ∧
     ∀ sA2 sC2 hv4, Ownd hv4 5 1 sA2 (dstL + (⟨#[45, 73, 110, 102]⟩ : ByteArray).size) sC2 (old2 ++ (Lib.strCells (⟨#[45, 73, 110, 102]⟩ : ByteArray))) → Fr (blkOf dstA) hv2 hv4 → ((sA2 = dstA ∧ sC2 = dstC) ∨ ∃ g, sA2 = some ⟨g, 0, none⟩ ∧ hv2.size ≤ g) → (dstC < (dstL + (⟨#[45, 73, 110, 102]⟩ : ByteArray).size) → Fr [] hv2 hv4) →
     R (.slice sA2 (dstL + (⟨#[45, 73, 110, 102]⟩ : ByteArray).size) sC2) hv4)
     (∃ old3, Ownd hv2 5 1 dstA dstL dstC old3 ∧ (∀ b ∈ ([] : List Nat), b ∉ blkOf dstA) ∧ (dstL + (⟨#[43, 73, 110, 102]⟩ : ByteArray).size) * 1 ≤ 140737488355328 ∧ (dstL + (⟨#[43, 73, 110, 102]⟩ : ByteArray).size) ≤ maxLen ∧
     ∀ sA3 sC3 hv5, Ownd hv5 5 1 sA3 (dstL + (⟨#[43, 73, 110, 102]⟩ : ByteArray).size) sC3 (old3 ++ (Lib.strCells (⟨#[43, 73, 110, 102]⟩ : ByteArray))) → Fr (blkOf dstA) hv2 hv5 → ((sA3 = dstA ∧ sC3 = dstC) ∨ ∃ g, sA3 = some ⟨g, 0, none⟩ ∧ hv2.size ≤ g) → (dstC < (dstL + (⟨#[43, 73, 110, 102]⟩ : ByteArray).size) → Fr [] hv2 hv5) →
     R (.slice sA3 (dstL + (⟨#[43, 73, 110, 102]⟩ : ByteArray).size) sC3) hv5)))
   (∃ Jv3 : List Value → Heap → Prop,
   ( cnd ((bits .and .i64 (IntKind.i64.wrap (Int.fdiv b2 (2 ^ (min (Int.toNat mantBits2) 64)))) (IntKind.i64.wrap ((IntKind.i64.wrap ((1 : Int) * 2 ^ (min (Int.toNat expBits2) 64))) - (1 : Int)))) == (0 : Int))
    (Jv3 [.int .i64 (IntKind.i64.wrap ((bits .and .i64 (IntKind.i64.wrap (Int.fdiv b2 (2 ^ (min (Int.toNat mantBits2) 64)))) (IntKind.i64.wrap ((IntKind.i64.wrap ((1 : Int) * 2 ^ (min (Int.toNat expBits2) 64))) - (1 : Int)))) + (1 : Int))), .int .u64 (bits .and .u64 b2 (IntKind.u64.wrap ((IntKind.u64.wrap ((1 : Int) * 2 ^ (min (Int.toNat mantBits2) 64))) - (1 : Int))))] hv2)
    (0 ≤ mantBits2 ∧ Jv3 [.int .i64 (bits .and .i64 (IntKind.i64.wrap (Int.fdiv b2 (2 ^ (min (Int.toNat mantBits2) 64)))) (IntKind.i64.wrap ((IntKind.i64.wrap ((1 : Int) * 2 ^ (min (Int.toNat expBits2) 64))) - (1 : Int)))), .int .u64 (bits .or .u64 (bits .and .u64 b2 (IntKind.u64.wrap ((IntKind.u64.wrap ((1 : Int) * 2 ^ (min (Int.toNat mantBits2) 64))) - (1 : Int)))) (IntKind.u64.wrap ((1 : Int) * 2 ^ (min (Int.toNat mantBits2) 64))))] hv2)) ∧
   ∀ exp : Int, ∀ mant : Int, ∀ hv6, Jv3 [.int .i64 exp, .int .u64 mant] hv6 →
   cnd (fmt == (98 : Int))
    (callX Tryz.prog 61 #[.slice dstA dstL dstC, .bool ((Int.fdiv b2 (2 ^ (min (Int.toNat (IntKind.i64.wrap (expBits2 + mantBits2))) 64))) != (0 : Int)), .int .u64 mant, .int .i64 (IntKind.i64.wrap ((IntKind.i64.wrap (exp + bias2)) - mantBits2))] hv6 [] fun v2 hv7 =>
    ∃ (rA : Option Addr) (rL rC : Nat), v2 = .slice rA rL rC ∧
    R (.slice rA rL rC) hv7)
    (cnd (fmt == (120 : Int))
     (callX Tryz.prog 62 #[.slice dstA dstL dstC, .int .i64 prec, .int .u8 fmt, .bool ((Int.fdiv b2 (2 ^ (min (Int.toNat (IntKind.i64.wrap (expBits2 + mantBits2))) 64))) != (0 : Int)), .int .u64 mant, .int .i64 (IntKind.i64.wrap (exp + bias2)), .int .i64 mantBits2] hv6 [] fun v3 hv8 =>
     ∃ (rA2 : Option Addr) (rL2 rC2 : Nat), v3 = .slice rA2 rL2 rC2 ∧
     R (.slice rA2 rL2 rC2) hv8)
     (cnd (fmt == (88 : Int))
      (callX Tryz.prog 62 #[.slice dstA dstL dstC, .int .i64 prec, .int .u8 fmt, .bool ((Int.fdiv b2 (2 ^ (min (Int.toNat (IntKind.i64.wrap (expBits2 + mantBits2))) 64))) != (0 : Int)), .int .u64 mant, .int .i64 (IntKind.i64.wrap (exp + bias2)), .int .i64 mantBits2] hv6 [] fun v4 hv9 =>
      ∃ (rA3 : Option Addr) (rL3 rC3 : Nat), v4 = .slice rA3 rL3 rC3 ∧
      R (.slice rA3 rL3 rC3) hv9)
      (cnd (mant == (0 : Int))
       (callX Tryz.prog 63 #[.slice dstA dstL dstC, .bool ((Int.fdiv b2 (2 ^ (min (Int.toNat (IntKind.i64.wrap (expBits2 + mantBits2))) 64))) != (0 : Int)), .slice none 0 0, .int .i64 0, .int .i64 0, .int .i64 prec, .int .u8 fmt, .bool (decide (prec < (0 : Int)))] hv6 [] fun v5 hv10 =>
       ∃ (rA4 : Option Addr) (rL4 rC4 : Nat), v5 = .slice rA4 rL4 rC4 ∧
       R (.slice rA4 rL4 rC4) hv10)
       (cnd (decide (prec < (0 : Int)))
        (let hv11 : Heap := hv6.push (.cells #[.int .u8 0, .int .u8 0, .int .u8 0, .int .u8 0, .int .u8 0, .int .u8 0, .int .u8 0, .int .u8 0, .int .u8 0, .int .u8 0, .int .u8 0, .int .u8 0, .int .u8 0, .int .u8 0, .int .u8 0, .int .u8 0, .int .u8 0, .int .u8 0, .int .u8 0, .int .u8 0, .int .u8 0, .int .u8 0, .int .u8 0, .int .u8 0, .int .u8 0, .int .u8 0, .int .u8 0, .int .u8 0, .int .u8 0, .int .u8 0, .int .u8 0, .int .u8 0] 89)
        callX Tryz.prog 64 #[.int .u64 mant] hv11 [] fun v6 hv12 =>
        ∃ r2 : Int, v6 = .int .i64 r2 ∧
        0 ≤ (IntKind.i64.wrap ((64 : Int) - r2)) ∧ callX Tryz.prog 73 #[.int .u64 (IntKind.u64.wrap (mant * 2 ^ (min (Int.toNat (IntKind.i64.wrap ((64 : Int) - r2))) 64))), .int .i64 (IntKind.i64.wrap ((IntKind.i64.wrap ((IntKind.i64.wrap (exp + bias2)) - (IntKind.i64.wrap ((64 : Int) - r2)))) - mantBits2))] hv12 [] fun v7 hv13 =>
        ∃ ra : Int, ∃ rb : Int, v7 = .tuple #[.int .u64 ra, .int .i64 rb] ∧
        ∃ Mv : List Nat, (∀ b ∈ ([] : List Nat), b ∉ Mv) ∧
        callX Tryz.prog 67 #[.int .u64 ra] hv13 [] fun v8 hv14 =>
        ∃ r3 : Int, v8 = .int .i64 r3 ∧
        Fr Mv hv13 hv14 ∧
        callX Tryz.prog 66 #[.slice (some (if 32 = 0 then (⟨hv6.size, 0, none⟩ : Addr) else Addr.add (⟨hv6.size, 0, none⟩ : Addr) (0 * 1))) (32 - 0) (32 - 0), .int .u64 ra, .int .i64 rb, .int .i64 r3] hv14 [] fun v9 hv15 =>
        ∃ ra2 : Int, ∃ rb2 : Int, v9 = .tuple #[.int .i64 ra2, .int .i64 rb2] ∧
        Fr Mv hv13 hv15 ∧
        let K3 := fun (prec3 : Int) (hv19 : Heap) =>
         (callX Tryz.prog 63 #[.slice dstA dstL dstC, .bool ((Int.fdiv b2 (2 ^ (min (Int.toNat (IntKind.i64.wrap (expBits2 + mantBits2))) 64))) != (0 : Int)), .slice (some (if 32 = 0 then (⟨hv6.size, 0, none⟩ : Addr) else Addr.add (⟨hv6.size, 0, none⟩ : Addr) (0 * 1))) (32 - 0) (32 - 0), .int .i64 ra2, .int .i64 rb2, .int .i64 prec3, .int .u8 fmt, .bool true] hv19 [] fun v10 hv20 =>
         ∃ (rA5 : Option Addr) (rL5 rC5 : Nat), v10 = .slice rA5 rL5 rC5 ∧
         R (.slice rA5 rL5 rC5) hv20)
        let K := fun (x : Bool) (hv16 : Heap) =>
         (cnd x
          (K3 (if (0 : Int) > (IntKind.i64.wrap (rb2 - (1 : Int))) then (0 : Int) else (IntKind.i64.wrap (rb2 - (1 : Int)))) hv16)
          (∃ Jv4 : List Value → Heap → Prop,
          ( cnd (fmt == (102 : Int))
           (Jv4 [.int .i64 (if (0 : Int) > (IntKind.i64.wrap (rb2 - ra2)) then (0 : Int) else (IntKind.i64.wrap (rb2 - ra2)))] hv16)
           (let K2 := fun (x2 : Bool) (hv17 : Heap) =>
            (cnd x2
             (Jv4 [.int .i64 rb2] hv17)
             (Jv4 [.int .i64 prec] hv17))
           cnd (fmt == (103 : Int))
            (K2 (fmt == (103 : Int)) hv16)
            (K2 (fmt == (71 : Int)) hv16))) ∧
          ∀ prec2 : Int, ∀ hv18, Jv4 [.int .i64 prec2] hv18 →
          K3 prec2 hv18))
        cnd (fmt == (101 : Int))
         (K (fmt == (101 : Int)) hv15)
         (K (fmt == (69 : Int)) hv15))
        (False))))))
theorem calls49 {h : Heap} {R : Value → Heap → Prop} (dstA : Option Addr) (dstL dstC : Nat) (val : Nat) (fmt : Int) (prec : Int) (H : S49 dstA dstL dstC val fmt prec h R) : CallsH Tryz.prog 49 #[.slice dstA dstL dstC, .float .f64 val, .int .u8 fmt, .int .i64 prec] h R := by
  have e : S49 dstA dstL dstC val fmt prec h R = FX (envX [] 298) { loops := [], joins := [(34, ⟨[0, 2, 3], [9, 10, 11, 12], [], []⟩), (40, ⟨[0, 2, 3], [9, 10, 11, 12], [], []⟩), (78, ⟨[0, 2, 3, 11, 12, 13], [14, 15], [], []⟩), (155, ⟨[0, 2, 13, 16, 22, 23], [3], [], []⟩)], blocks := [], draws := [(14, ⟨9, false⟩), (38, ⟨11, true⟩)], cut := [49] } Tryz.f49 (Tryz.f49.body.getD .skip) [.slice dstA dstL dstC, .float .f64 val, .int .u8 fmt, .int .i64 prec] h R := by kernel_rfl
  exact calls_of_FX (envX_ok _ _) Tryz.func49 (by kernel_rfl) (by kernel_rfl) (by kernel_rfl) (e ▸ H)
/-- internal/strconv.ftoa64 -/
def Ok49 (dstV : List Int) (val : Nat) (fmt : Int) (prec : Int) (R : List Int → Prop) : Prop :=
  ∀ (h : Heap) (gl : GL) (dstA : Option Addr) (dstL dstC : Nat), Hp h [Ck.glob gl, Ck.sl (eK .u8) 5 dstA dstL dstC dstV] → CallsH Tryz.prog 49 #[.slice dstA dstL dstC, .float .f64 val, .int .u8 fmt, .int .i64 prec] h fun v h' => ∃ (rVA : Option Addr) (rVL rVC : Nat) (rV : List Int), Sy h (owns [Ck.sl (eK .u8) 5 dstA dstL dstC dstV]) h' [Ck.sl (eK .u8) 5 rVA rVL rVC rV] ∧ v = .slice rVA rVL rVC ∧ R rV
theorem Ok49.mono {dstV val fmt prec} {R R' : List Int → Prop} (H : Ok49 dstV val fmt prec R) (kz : ∀ rV, R rV → R' rV) : Ok49 dstV val fmt prec R' :=
  fun h gl dstA dstL dstC hp => (H h gl dstA dstL dstC hp).mono fun _ _ ⟨rVA, rVL, rVC, rV, P, e, q⟩ => ⟨rVA, rVL, rVC, rV, P, e, kz _ q⟩
def T49 (dstV : List Int) (val : Nat) (fmt : Int) (prec : Int) (R : List Int → Prop) : Prop :=
  ∃ Jv : Int → Int → Int → Int → Prop,
  ( cnd ((64 : Int) == (32 : Int))
   (False)
   (∃ Jv2 : Int → Int → Int → Int → Prop,
   ( cnd ((64 : Int) == (64 : Int))
     (callE Tryz.prog 60 #[.float .f64 val] fun v =>
     ∃ r : Int, v = .int .u64 r ∧
     Jv2 r 11 52 (-1023))
     (Jv2 0 0 0 0)) ∧
   ∀ b : Int, ∀ expBits : Int, ∀ mantBits : Int, ∀ bias : Int, Jv2 b expBits mantBits bias →
   Jv b expBits mantBits bias)) ∧
  ∀ b2 : Int, ∀ expBits2 : Int, ∀ mantBits2 : Int, ∀ bias2 : Int, Jv b2 expBits2 mantBits2 bias2 →
  0 ≤ (IntKind.i64.wrap (expBits2 + mantBits2)) ∧ 0 ≤ mantBits2 ∧ 0 ≤ expBits2 ∧ 0 ≤ mantBits2 ∧ 0 ≤ expBits2 ∧ cnd ((bits .and .i64 (IntKind.i64.wrap (Int.fdiv b2 (2 ^ (min (Int.toNat mantBits2) 64)))) (IntKind.i64.wrap ((IntKind.i64.wrap ((1 : Int) * 2 ^ (min (Int.toNat expBits2) 64))) - (1 : Int)))) == (IntKind.i64.wrap ((IntKind.i64.wrap ((1 : Int) * 2 ^ (min (Int.toNat expBits2) 64))) - (1 : Int))))
   (cnd ((bits .and .u64 b2 (IntKind.u64.wrap ((IntKind.u64.wrap ((1 : Int) * 2 ^ (min (Int.toNat mantBits2) 64))) - (1 : Int)))) != (0 : Int))
    ((dstV.length + (⟨#[78, 97, 78]⟩ : ByteArray).size) < 1000000000000 ∧ R (dstV ++ (bytesL (⟨#[78, 97, 78]⟩ : ByteArray))))
    (cnd ((Int.fdiv b2 (2 ^ (min (Int.toNat (IntKind.i64.wrap (expBits2 + mantBits2))) 64))) != (0 : Int))
     ((dstV.length + (⟨#[45, 73, 110, 102]⟩ : ByteArray).size) < 1000000000000 ∧ R (dstV ++ (bytesL (⟨#[45, 73, 110, 102]⟩ : ByteArray))))
     ((dstV.length + (⟨#[43, 73, 110, 102]⟩ : ByteArray).size) < 1000000000000 ∧ R (dstV ++ (bytesL (⟨#[43, 73, 110, 102]⟩ : ByteArray))))))
   (∃ Jv3 : Int → Int → Prop,
   ( cnd ((bits .and .i64 (IntKind.i64.wrap (Int.fdiv b2 (2 ^ (min (Int.toNat mantBits2) 64)))) (IntKind.i64.wrap ((IntKind.i64.wrap ((1 : Int) * 2 ^ (min (Int.toNat expBits2) 64))) - (1 : Int)))) == (0 : Int))
    (Jv3 (IntKind.i64.wrap ((bits .and .i64 (IntKind.i64.wrap (Int.fdiv b2 (2 ^ (min (Int.toNat mantBits2) 64)))) (IntKind.i64.wrap ((IntKind.i64.wrap ((1 : Int) * 2 ^ (min (Int.toNat expBits2) 64))) - (1 : Int)))) + (1 : Int))) (bits .and .u64 b2 (IntKind.u64.wrap ((IntKind.u64.wrap ((1 : Int) * 2 ^ (min (Int.toNat mantBits2) 64))) - (1 : Int)))))
    (0 ≤ mantBits2 ∧ Jv3 (bits .and .i64 (IntKind.i64.wrap (Int.fdiv b2 (2 ^ (min (Int.toNat mantBits2) 64)))) (IntKind.i64.wrap ((IntKind.i64.wrap ((1 : Int) * 2 ^ (min (Int.toNat expBits2) 64))) - (1 : Int)))) (bits .or .u64 (bits .and .u64 b2 (IntKind.u64.wrap ((IntKind.u64.wrap ((1 : Int) * 2 ^ (min (Int.toNat mantBits2) 64))) - (1 : Int)))) (IntKind.u64.wrap ((1 : Int) * 2 ^ (min (Int.toNat mantBits2) 64)))))) ∧
   ∀ exp : Int, ∀ mant : Int, Jv3 exp mant →
   cnd (fmt == (98 : Int))
    (False)
    (cnd (fmt == (120 : Int))
     (False)
     (cnd (fmt == (88 : Int))
      (False)
      (cnd (mant == (0 : Int))
       (Ok63 dstV ((Int.fdiv b2 (2 ^ (min (Int.toNat (IntKind.i64.wrap (expBits2 + mantBits2))) 64))) != (0 : Int)) ([] : List Int) 0 0 prec fmt (decide (prec < (0 : Int))) (fun r_2 =>
       R r_2))
       (cnd (decide (prec < (0 : Int)))
        (Ok64 mant (fun r2 =>
        0 ≤ (IntKind.i64.wrap ((64 : Int) - r2)) ∧ Ok73 (IntKind.u64.wrap (mant * 2 ^ (min (Int.toNat (IntKind.i64.wrap ((64 : Int) - r2))) 64))) (IntKind.i64.wrap ((IntKind.i64.wrap ((IntKind.i64.wrap (exp + bias2)) - (IntKind.i64.wrap ((64 : Int) - r2)))) - mantBits2)) (fun ra rb =>
        Ok67 ra (fun r3 =>
        Ok66 (List.replicate 32 0) ra rb r3 (fun sV1 ra2 rb2 =>
        ∃ Jv_2 : Int → Prop,
        ( ∃ Jv_3 : Bool → Prop,
        ( cnd (fmt == (101 : Int))
          (Jv_3 (fmt == (101 : Int)))
          (Jv_3 (fmt == (69 : Int)))) ∧
        ∀ x : Bool, Jv_3 x →
        cnd x
         (Jv_2 (if (0 : Int) > (IntKind.i64.wrap (rb2 - (1 : Int))) then (0 : Int) else (IntKind.i64.wrap (rb2 - (1 : Int)))))
         (∃ Jv4 : Int → Prop,
         ( cnd (fmt == (102 : Int))
           (Jv4 (if (0 : Int) > (IntKind.i64.wrap (rb2 - ra2)) then (0 : Int) else (IntKind.i64.wrap (rb2 - ra2))))
           (∃ Jv_4 : Bool → Prop,
           ( cnd (fmt == (103 : Int))
            (Jv_4 (fmt == (103 : Int)))
            (Jv_4 (fmt == (71 : Int)))) ∧
           ∀ x2 : Bool, Jv_4 x2 →
           cnd x2
            (Jv4 rb2)
            (Jv4 prec))) ∧
         ∀ prec2 : Int, Jv4 prec2 →
         Jv_2 prec2)) ∧
        ∀ prec3 : Int, Jv_2 prec3 →
        Ok63 dstV ((Int.fdiv b2 (2 ^ (min (Int.toNat (IntKind.i64.wrap (expBits2 + mantBits2))) 64))) != (0 : Int)) sV1 ra2 rb2 prec3 fmt true (fun r_3 =>
        R r_3))))))
        (False))))))
theorem ok49 {dstV val fmt prec} {R : List Int → Prop} (T : T49 dstV val fmt prec R) : Ok49 dstV val fmt prec R := by
  intro h gl dstA dstL dstC H
  have Y : Sy h (owns [Ck.sl (eK .u8) 5 dstA dstL dstC dstV]) h _ := Sy.startM H rfl
  obtain rfl := Y.lenS 1 rfl
  apply calls49
  unfold S49
  unfold T49 at T
  obtain ⟨Jv, T0, T1⟩ := T
  obtain ⟨B, hB, _⟩ := Y.cut [] [0, 1] rfl
  refine ⟨fun lz h' => ∃ (b2 : Int) (expBits2 : Int) (mantBits2 : Int) (bias2 : Int), lz = [.int .u64 b2, .int .i64 expBits2, .int .i64 mantBits2, .int .i64 bias2] ∧ Sy h (owns [Ck.sl (eK .u8) 5 dstA dstV.length dstC dstV]) h' ([] ++ B) ∧ Jv b2 expBits2 mantBits2 bias2, ?_, ?_⟩
  · subst hB
    replace T := T0
    clear T0 T1
    refine cnd_imp T (fun T => ?_) (fun T => ?_)
    · exact T.elim
    · obtain ⟨Jv2, T0, T1⟩ := T
      obtain ⟨B_2, hB_2, _⟩ := Y.cut [] [0, 1] rfl
      refine ⟨fun lz h' => ∃ (b : Int) (expBits : Int) (mantBits : Int) (bias : Int), lz = [.int .u64 b, .int .i64 expBits, .int .i64 mantBits, .int .i64 bias] ∧ Sy h (owns [Ck.sl (eK .u8) 5 dstA dstV.length dstC dstV]) h' ([] ++ B_2) ∧ Jv2 b expBits mantBits bias, ?_, ?_⟩
      · subst hB_2
        replace T := T0
        clear T0 T1
        refine cnd_imp T (fun T => ?_) (fun T => ?_)
        · obtain ⟨Rx, hx, T⟩ := T
          refine ⟨Rx, hx, fun v hv => ?_⟩
          obtain ⟨r, rfl, T⟩ := T v hv
          refine ⟨r, rfl, ?_⟩
          exact ⟨_, _, _, _, rfl, Y.pick [0, 1] rfl, T⟩
        · exact ⟨_, _, _, _, rfl, Y.pick [0, 1] rfl, T⟩
      · subst hB_2
        clear T0 Y
        rintro b expBits mantBits bias hv ⟨b, expBits, mantBits, bias, e, Y, T⟩
        cases e
        replace T := T1 b expBits mantBits bias T
        have Y : Sy _ _ _ [_, _] := Y
        exact ⟨_, _, _, _, rfl, Y.pick [0, 1] rfl, T⟩
  · subst hB
    clear T0 Y
    rintro b2 expBits2 mantBits2 bias2 hv2 ⟨b2, expBits2, mantBits2, bias2, e, Y, T⟩
    cases e
    replace T := T1 b2 expBits2 mantBits2 bias2 T
    have Y : Sy _ _ _ [_, _] := Y
    obtain ⟨q_10, T⟩ := T
    refine ⟨q_10, ?_⟩
    have Y0 := Y
    have F : Fr [] hv2 hv2 := Fr.refl _ _
    obtain ⟨q_9, T⟩ := T
    refine ⟨q_9, ?_⟩
    obtain ⟨q_8, T⟩ := T
    refine ⟨q_8, ?_⟩
    obtain ⟨q_7, T⟩ := T
    refine ⟨q_7, ?_⟩
    obtain ⟨q_6, T⟩ := T
    refine ⟨q_6, ?_⟩
    refine cnd_imp T (fun T => ?_) (fun T => ?_)
    · refine cnd_imp T (fun T => ?_) (fun T => ?_)
      · obtain ⟨q, T⟩ := T
        refine ⟨_, Y.ownS 1 rfl, alln, by first | exact appB q (by decide) | omega, by first | exact appM q | (simp [maxLen]; omega), ?_⟩
        intro sA sC hv3 ow fA gA gB
        have Y : Sy _ _ hv3 [_, _] := Y.appS 1 rfl (bytesL (⟨#[78, 97, 78]⟩ : ByteArray)) ow fA gA (bytesL_l _) (bytesL_len _)
        exact ⟨_, _, _, _, Y.pick [1] rfl, rfl, T⟩
      · refine cnd_imp T (fun T => ?_) (fun T => ?_)
        · obtain ⟨q_2, T⟩ := T
          refine ⟨_, Y.ownS 1 rfl, alln, by first | exact appB q_2 (by decide) | omega, by first | exact appM q_2 | (simp [maxLen]; omega), ?_⟩
          intro sA2 sC2 hv4 ow fA gA gB
          have Y : Sy _ _ hv4 [_, _] := Y.appS 1 rfl (bytesL (⟨#[45, 73, 110, 102]⟩ : ByteArray)) ow fA gA (bytesL_l _) (bytesL_len _)
          exact ⟨_, _, _, _, Y.pick [1] rfl, rfl, T⟩
        · obtain ⟨q_3, T⟩ := T
          refine ⟨_, Y.ownS 1 rfl, alln, by first | exact appB q_3 (by decide) | omega, by first | exact appM q_3 | (simp [maxLen]; omega), ?_⟩
          intro sA3 sC3 hv5 ow fA gA gB
          have Y : Sy _ _ hv5 [_, _] := Y.appS 1 rfl (bytesL (⟨#[43, 73, 110, 102]⟩ : ByteArray)) ow fA gA (bytesL_l _) (bytesL_len _)
          exact ⟨_, _, _, _, Y.pick [1] rfl, rfl, T⟩
    · obtain ⟨Jv3, T0, T1⟩ := T
      obtain ⟨B_3, hB_3, _⟩ := Y.cut [] [0, 1] rfl
      refine ⟨fun lz h' => ∃ (exp : Int) (mant : Int), lz = [.int .i64 exp, .int .u64 mant] ∧ Sy h (owns [Ck.sl (eK .u8) 5 dstA dstV.length dstC dstV]) h' ([] ++ B_3) ∧ Jv3 exp mant, ?_, ?_⟩
      · subst hB_3
        replace T := T0
        clear T0 T1
        refine cnd_imp T (fun T => ?_) (fun T => ?_)
        · exact ⟨_, _, rfl, Y.pick [0, 1] rfl, T⟩
        · obtain ⟨q_4, T⟩ := T
          refine ⟨q_4, ?_⟩
          exact ⟨_, _, rfl, Y.pick [0, 1] rfl, T⟩
      · subst hB_3
        clear T0 Y
        rintro exp mant hv6 ⟨exp, mant, e, Y, T⟩
        cases e
        replace T := T1 exp mant T
        have Y : Sy _ _ _ [_, _] := Y
        refine cnd_imp T (fun T => ?_) (fun T => ?_)
        · exact T.elim
        · refine cnd_imp T (fun T => ?_) (fun T => ?_)
          · exact T.elim
          · refine cnd_imp T (fun T => ?_) (fun T => ?_)
            · exact T.elim
            · refine cnd_imp T (fun T => ?_) (fun T => ?_)
              · have Y : Sy _ _ _ [_, _, _] := Y.nilS (eK .u8) 5
                refine callX_sy (T _ _ _ _ _ _ _ ((Y.turn 2 rfl To.slvw).pick [1, 2] rfl).hp) (fun _ _ ⟨_, _, _, _, p, _⟩ => p.fr) alln ?_
                rintro v5 hv10 ⟨rA4, rL4, rC4, r_2, PP, rfl, T⟩
                have Y : Sy _ _ hv10 [_, _, _] := Y.call2 [1, 0, 2] rfl (A := [_]) rfl rfl PP ⟨rfl, trivial⟩
                clear PP
                obtain rfl := Y.lenS 0 rfl
                refine ⟨_, _, _, rfl, ?_⟩
                exact ⟨_, _, _, _, Y.pick [0] rfl, rfl, T⟩
              · refine cnd_imp T (fun T => ?_) (fun T => ?_)
                · intro hv11
                  have Y : Sy _ _ hv11 [_, _, _] := Y.newO _
                  clear_value hv11
                  refine callX_sy (T _ (Hp.nil _)) (fun _ _ ⟨_, p, _⟩ => p.fr) alln ?_
                  rintro v6 hv12 ⟨r2, PP, rfl, T⟩
                  have Y : Sy _ _ hv12 [_, _, _] := Y.gr PP.fr
                  clear PP
                  refine ⟨r2, rfl, ?_⟩
                  obtain ⟨q_5, T⟩ := T
                  refine ⟨q_5, ?_⟩
                  refine callX_sy (T _ _ (Y.pick [0] rfl).hp) (fun _ _ ⟨_, _, p, _⟩ => p.fr) alln ?_
                  rintro v7 hv13 ⟨ra, rb, PP, rfl, T⟩
                  have Y : Sy _ _ hv13 [_, _, _] := Y.gr PP.fr
                  clear PP
                  refine ⟨ra, rb, rfl, ?_⟩
                  have Y0 := Y
                  obtain ⟨Mx, hMx⟩ := Y.mt [2] []
                  refine ⟨Mx, ?_⟩
                  subst hMx
                  refine ⟨alln, ?_⟩
                  have F : Fr _ hv13 hv13 := Y0.frM [2] []
                  have Y : Sy _ _ _ [_, _, _] := Y.turn 2 rfl (To.obsl (E := (eK .u8)) (List.replicate 32 0) rfl (by simp [maxLen]) rfl)
                  refine callX_sy (T _ _ (Y.pick [0] rfl).hp) (fun _ _ ⟨_, p, _⟩ => p.fr) alln ?_
                  rintro v8 hv14 ⟨r3, PP, rfl, T⟩
                  have F : Fr _ _ hv14 := F.trans PP.fr.nil
                  have fshv14 := F.size
                  have Y : Sy _ _ hv14 [_, _, _] := Y.gr PP.fr
                  clear PP
                  refine ⟨r3, rfl, ?_⟩
                  refine ⟨F, ?_⟩
                  refine callX_sy (T _ _ _ _ _ (Y.pick [2] rfl).hp) (fun _ _ ⟨_, _, _, p, _⟩ => p.fr) alln ?_
                  rintro v9 hv15 ⟨sV1, ra2, rb2, PP, rfl, T⟩
                  have F : Fr _ _ hv15 := F.comp PP.fr (inOwnC (Y0.inMo 2 [2] [] rfl rfl) inOwnN)
                  have fshv15 := F.size
                  have Y : Sy _ _ hv15 [_, _, _] := Y.call2 [2, 0, 1] rfl (A := [_]) rfl rfl PP ⟨rfl, trivial⟩
                  clear PP
                  refine ⟨ra2, rb2, rfl, ?_⟩
                  refine ⟨F, ?_⟩
                  obtain ⟨Jv_2, T0, T1⟩ := T
                  obtain ⟨B_4, hB_4, _⟩ := Y.cut [] [0, 1, 2] rfl
                  intro K3
                  have hK3 : ∀ (prec3 : Int) (hv19 : Heap), (Sy h (owns [Ck.sl (eK .u8) 5 dstA dstV.length dstC dstV]) hv19 ([] ++ B_4) ∧ Jv_2 prec3) → K3 prec3 hv19 := by
                    subst hB_4
                    clear T0 Y
                    rintro prec3 hv19 ⟨Y, T⟩
                    replace T := T1 prec3 T
                    have Y : Sy _ _ _ [_, _, _] := Y
                    unfold K3
                    refine callX_sy (T _ _ _ _ _ _ _ ((Y.turn 0 rfl To.slvw).pick [2, 0] rfl).hp) (fun _ _ ⟨_, _, _, _, p, _⟩ => p.fr) alln ?_
                    rintro v10 hv20 ⟨rA5, rL5, rC5, r_3, PP, rfl, T⟩
                    have Y : Sy _ _ hv20 [_, _, _] := Y.call2 [2, 0, 1] rfl (A := [_]) rfl rfl PP ⟨rfl, trivial⟩
                    clear PP
                    obtain rfl := Y.lenS 0 rfl
                    refine ⟨_, _, _, rfl, ?_⟩
                    exact ⟨_, _, _, _, Y.pick [0] rfl, rfl, T⟩
                  subst hB_4
                  replace T := T0
                  clear T0 T1
                  obtain ⟨Jv_3, T0, T1⟩ := T
                  obtain ⟨B_5, hB_5, _⟩ := Y.cut [] [0, 1, 2] rfl
                  intro K
                  have hK : ∀ (x : Bool) (hv16 : Heap), (Sy h (owns [Ck.sl (eK .u8) 5 dstA dstV.length dstC dstV]) hv16 ([] ++ B_5) ∧ Jv_3 x) → K x hv16 := by
                    subst hB_5
                    clear T0 Y
                    rintro x hv16 ⟨Y, T⟩
                    replace T := T1 x T
                    have Y : Sy _ _ _ [_, _, _] := Y
                    unfold K
                    refine cnd_imp T (fun T => ?_) (fun T => ?_)
                    · exact hK3 _ _ ⟨Y.pick [0, 1, 2] rfl, T⟩
                    · obtain ⟨Jv4, T0, T1⟩ := T
                      obtain ⟨B_6, hB_6, _⟩ := Y.cut [] [0, 1, 2] rfl
                      refine ⟨fun lz h' => ∃ (prec2 : Int), lz = [.int .i64 prec2] ∧ Sy h (owns [Ck.sl (eK .u8) 5 dstA dstV.length dstC dstV]) h' ([] ++ B_6) ∧ Jv4 prec2, ?_, ?_⟩
                      · subst hB_6
                        replace T := T0
                        clear T0 T1
                        refine cnd_imp T (fun T => ?_) (fun T => ?_)
                        · exact ⟨_, rfl, Y.pick [0, 1, 2] rfl, T⟩
                        · obtain ⟨Jv_4, T0, T1⟩ := T
                          obtain ⟨B_7, hB_7, _⟩ := Y.cut [] [0, 1, 2] rfl
                          intro K2
                          have hK2 : ∀ (x2 : Bool) (hv17 : Heap), (Sy h (owns [Ck.sl (eK .u8) 5 dstA dstV.length dstC dstV]) hv17 ([] ++ B_7) ∧ Jv_4 x2) → K2 x2 hv17 := by
                            subst hB_7
                            clear T0 Y
                            rintro x2 hv17 ⟨Y, T⟩
                            replace T := T1 x2 T
                            have Y : Sy _ _ _ [_, _, _] := Y
                            unfold K2
                            refine cnd_imp T (fun T => ?_) (fun T => ?_)
                            · exact ⟨_, rfl, Y.pick [0, 1, 2] rfl, T⟩
                            · exact ⟨_, rfl, Y.pick [0, 1, 2] rfl, T⟩
                          subst hB_7
                          replace T := T0
                          clear T0 T1
                          refine cnd_imp T (fun T => ?_) (fun T => ?_)
                          · exact hK2 _ _ ⟨Y.pick [0, 1, 2] rfl, T⟩
                          · exact hK2 _ _ ⟨Y.pick [0, 1, 2] rfl, T⟩
                      · subst hB_6
                        clear T0 Y
                        rintro prec2 hv18 ⟨prec2, e, Y, T⟩
                        cases e
                        replace T := T1 prec2 T
                        have Y : Sy _ _ _ [_, _, _] := Y
                        exact hK3 _ _ ⟨Y.pick [0, 1, 2] rfl, T⟩
                  subst hB_5
                  replace T := T0
                  clear T0 T1
                  refine cnd_imp T (fun T => ?_) (fun T => ?_)
                  · exact hK _ _ ⟨Y.pick [0, 1, 2] rfl, T⟩
                  · exact hK _ _ ⟨Y.pick [0, 1, 2] rfl, T⟩
                · exact T.elim
/-- internal/strconv.FormatFloat -/
def S41 (f : Nat) (fmt : Int) (prec : Int) (bitSize : Int) (h : Heap) (R : Value → Heap → Prop) : Prop :=
  cnd (bitSize == (32 : Int))
   (0 ≤ (0 : Int) ∧ (0 : Int) ≤ (if (24 : Int) > (IntKind.i64.wrap (prec + (4 : Int))) then (24 : Int) else (IntKind.i64.wrap (prec + (4 : Int)))) ∧ ((1 : Nat) : Int) * (if (24 : Int) > (IntKind.i64.wrap (prec + (4 : Int))) then (24 : Int) else (IntKind.i64.wrap (prec + (4 : Int)))) ≤ 281474976710656 ∧ (if (24 : Int) > (IntKind.i64.wrap (prec + (4 : Int))) then (24 : Int) else (IntKind.i64.wrap (prec + (4 : Int)))) ≤ 9223372036854775807 ∧ let hv : Heap := h.push (.cells (madeCells (List.toArray [.int .u8 0]) (Int.toNat (if (24 : Int) > (IntKind.i64.wrap (prec + (4 : Int))) then (24 : Int) else (IntKind.i64.wrap (prec + (4 : Int)))) * 1)) 5)
   False)
   (cnd (bitSize == (64 : Int))
    (0 ≤ (0 : Int) ∧ (0 : Int) ≤ (if (24 : Int) > (IntKind.i64.wrap (prec + (4 : Int))) then (24 : Int) else (IntKind.i64.wrap (prec + (4 : Int)))) ∧ ((1 : Nat) : Int) * (if (24 : Int) > (IntKind.i64.wrap (prec + (4 : Int))) then (24 : Int) else (IntKind.i64.wrap (prec + (4 : Int)))) ≤ 281474976710656 ∧ (if (24 : Int) > (IntKind.i64.wrap (prec + (4 : Int))) then (24 : Int) else (IntKind.i64.wrap (prec + (4 : Int)))) ≤ 9223372036854775807 ∧ let hv2 : Heap := h.push (.cells (madeCells (List.toArray [.int .u8 0]) (Int.toNat (if (24 : Int) > (IntKind.i64.wrap (prec + (4 : Int))) then (24 : Int) else (IntKind.i64.wrap (prec + (4 : Int)))) * 1)) 5)
    callX Tryz.prog 49 #[.slice (some (⟨h.size, 0, none⟩ : Addr)) (Int.toNat (0 : Int)) (Int.toNat (if (24 : Int) > (IntKind.i64.wrap (prec + (4 : Int))) then (24 : Int) else (IntKind.i64.wrap (prec + (4 : Int))))), .float .f64 f, .int .u8 fmt, .int .i64 prec] hv2 [] fun v hv3 =>
    ∃ (rA : Option Addr) (rL rC : Nat), v = .slice rA rL rC ∧
    ∃ xs : List Int, Reads hv3 1 rA rL (List.map (Value.int IntKind.u8) xs) ∧ R (.string (strOf xs)) hv3)
    (False))
theorem calls41 {h : Heap} {R : Value → Heap → Prop} (f : Nat) (fmt : Int) (prec : Int) (bitSize : Int) (H : S41 f fmt prec bitSize h R) : CallsH Tryz.prog 41 #[.float .f64 f, .int .u8 fmt, .int .i64 prec, .int .i64 bitSize] h R := by
  have e : S41 f fmt prec bitSize h R = FX (envX [] 33) { loops := [], joins := [], blocks := [], draws := [] } Tryz.f41 (Tryz.f41.body.getD .skip) [.float .f64 f, .int .u8 fmt, .int .i64 prec, .int .i64 bitSize] h R := by kernel_rfl
  exact calls_of_FX (envX_ok _ _) Tryz.func41 (by kernel_rfl) (by kernel_rfl) (by kernel_rfl) (e ▸ H)
/-- internal/strconv.FormatFloat -/
def Ok41 (f : Nat) (fmt : Int) (prec : Int) (bitSize : Int) (R : ByteArray → Prop) : Prop :=
  ∀ (h : Heap) (gl : GL), Hp h [Ck.glob gl] → CallsH Tryz.prog 41 #[.float .f64 f, .int .u8 fmt, .int .i64 prec, .int .i64 bitSize] h fun v h' => ∃ (rV : ByteArray), Sy h [] h' [] ∧ v = .string rV ∧ R rV
theorem Ok41.mono {f fmt prec bitSize} {R R' : ByteArray → Prop} (H : Ok41 f fmt prec bitSize R) (kz : ∀ rV, R rV → R' rV) : Ok41 f fmt prec bitSize R' :=
  fun h gl hp => (H h gl hp).mono fun _ _ ⟨rV, P, e, q⟩ => ⟨rV, P, e, kz _ q⟩
def T41 (f : Nat) (fmt : Int) (prec : Int) (bitSize : Int) (R : ByteArray → Prop) : Prop :=
  cnd (bitSize == (32 : Int))
   (False)
   (cnd (bitSize == (64 : Int))
    (0 ≤ (0 : Int) ∧ (0 : Int) ≤ (if (24 : Int) > (IntKind.i64.wrap (prec + (4 : Int))) then (24 : Int) else (IntKind.i64.wrap (prec + (4 : Int)))) ∧ (if (24 : Int) > (IntKind.i64.wrap (prec + (4 : Int))) then (24 : Int) else (IntKind.i64.wrap (prec + (4 : Int)))) ≤ 1000000000000 ∧ Ok49 (List.replicate (Int.toNat (0 : Int)) (0 : Int)) f fmt prec (fun r =>
    R (strOf r)))
    (False))
theorem ok41 {f fmt prec bitSize} {R : ByteArray → Prop} (T : T41 f fmt prec bitSize R) : Ok41 f fmt prec bitSize R := by
  intro h gl H
  have Y : Sy h [] h _ := Sy.startM H rfl
  apply calls41
  unfold S41
  unfold T41 at T
  refine cnd_imp T (fun T => ?_) (fun T => ?_)
  · exact T.elim
  · refine cnd_imp T (fun T => ?_) (fun T => ?_)
    · obtain ⟨q, q_2, q_3, T⟩ := T
      refine ⟨q, q_2, by omega, by omega, ?_⟩
      intro hv2
      have Y : Sy _ _ hv2 [_, _] := Y.mkS (E := (eK .u8)) (ty := 5) (0 : Int) (Int.toNat (if (24 : Int) > (IntKind.i64.wrap (prec + (4 : Int))) then (24 : Int) else (IntKind.i64.wrap (prec + (4 : Int))))) (Int.toNat (0 : Int)) (by omega) (by simp [maxLen]; omega)
      clear_value hv2
      refine callX_sy (T _ _ _ _ _ (Y.pick [0, 1] rfl).hp) (fun _ _ ⟨_, _, _, _, p, _⟩ => p.fr) alln ?_
      rintro v hv3 ⟨rA, rL, rC, r, PP, rfl, T⟩
      have Y : Sy _ _ hv3 [_, _] := Y.call2 [1, 0] rfl (A := [_]) rfl rfl PP ⟨rfl, trivial⟩
      clear PP
      obtain rfl := Y.lenS 0 rfl
      refine ⟨_, _, _, rfl, ?_⟩
      refine ⟨_, reads8 (Y.readsS 0 rfl), ?_⟩
      exact ⟨_, Y.pick [] rfl, rfl, T⟩
    · exact T.elim
/-- strconv.FormatFloat -/
def S33 (f : Nat) (fmt : Int) (prec : Int) (bitSize : Int) (h : Heap) (R : Value → Heap → Prop) : Prop :=
  callX Tryz.prog 41 #[.float .f64 f, .int .u8 fmt, .int .i64 prec, .int .i64 bitSize] h [] fun v hv =>
  ∃ r : ByteArray, v = .string r ∧
  R (.string r) hv
theorem calls33 {h : Heap} {R : Value → Heap → Prop} (f : Nat) (fmt : Int) (prec : Int) (bitSize : Int) (H : S33 f fmt prec bitSize h R) : CallsH Tryz.prog 33 #[.float .f64 f, .int .u8 fmt, .int .i64 prec, .int .i64 bitSize] h R := by
  have e : S33 f fmt prec bitSize h R = FX (envX [] 14) { loops := [], joins := [], blocks := [], draws := [] } Tryz.f33 (Tryz.f33.body.getD .skip) [.float .f64 f, .int .u8 fmt, .int .i64 prec, .int .i64 bitSize] h R := by kernel_rfl
  exact calls_of_FX (envX_ok _ _) Tryz.func33 (by kernel_rfl) (by kernel_rfl) (by kernel_rfl) (e ▸ H)
/-- strconv.FormatFloat -/
def Ok33 (f : Nat) (fmt : Int) (prec : Int) (bitSize : Int) (R : ByteArray → Prop) : Prop :=
  ∀ (h : Heap) (gl : GL), Hp h [Ck.glob gl] → CallsH Tryz.prog 33 #[.float .f64 f, .int .u8 fmt, .int .i64 prec, .int .i64 bitSize] h fun v h' => ∃ (rV : ByteArray), Sy h [] h' [] ∧ v = .string rV ∧ R rV
theorem Ok33.mono {f fmt prec bitSize} {R R' : ByteArray → Prop} (H : Ok33 f fmt prec bitSize R) (kz : ∀ rV, R rV → R' rV) : Ok33 f fmt prec bitSize R' :=
  fun h gl hp => (H h gl hp).mono fun _ _ ⟨rV, P, e, q⟩ => ⟨rV, P, e, kz _ q⟩
def T33 (f : Nat) (fmt : Int) (prec : Int) (bitSize : Int) (R : ByteArray → Prop) : Prop :=
  Ok41 f fmt prec bitSize (fun r =>
  R r)
theorem ok33 {f fmt prec bitSize} {R : ByteArray → Prop} (T : T33 f fmt prec bitSize R) : Ok33 f fmt prec bitSize R := by
  intro h gl H
  have Y : Sy h [] h _ := Sy.startM H rfl
  apply calls33
  unfold S33
  unfold T33 at T
  refine callX_sy (T _ _ (Y.pick [0] rfl).hp) (fun _ _ ⟨_, p, _⟩ => p.fr) alln ?_
  rintro v hv ⟨r, PP, rfl, T⟩
  have Y : Sy _ _ hv [_] := Y.gr PP.fr
  clear PP
  refine ⟨r, rfl, ?_⟩
  exact ⟨_, Y.pick [] rfl, rfl, T⟩
end Go.Proofs.YtfjflbapojgbhaaGreatDoor.N
