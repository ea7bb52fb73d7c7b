/- Functions: what is left to be shown of each, over memory and without: printed by program, tied to the loaded functions by the kernel. Conditions: none. -/
import Derived.Test.YtlflalecmhgmjaaGreatDoorWEnv
import Derived.Test.YtlflalecmhgmjaaGreatDoorYGl
import Derived.Test.YtlflalecmhgmjaaGreatDoorKNode
import Derived.Test.YtlflalecmhgmjaaGreatDoorGWr
set_option linter.unusedVariables false
set_option linter.unusedSimpArgs false
namespace Go.Proofs.YtlflalecmhgmjaaGreatDoor.N
open Go.Proofs.YtlflalecmhgmjaaGreatDoor
open Go.X
set_option maxRecDepth 100000
set_option maxHeartbeats 2000000
def S113 (s1A : Option Addr) (s1L s1C : Nat) (s2A : Option Addr) (s2L s2C : Nat) (h : Heap) (R : Value -> Heap -> Prop) : Prop :=
 cnd (((s1L : Nat) : Int) != ((s2L : Nat) : Int))
  (R (.bool false) h)
  (∃ (d : List Value -> Heap -> Prop) (e : List Value -> Heap -> Nat), d [.int .i64 0] h /\
  ∀ a : Int, ∀ c, d [.int .i64 a] c ->
  cnd (decide (a < ((s1L : Nat) : Int)))
   (∃ b o, s1A = some ⟨b, o, none⟩ /\ 0 <= a /\ a < (s1L : Nat) /\ ∃ f : Int, hcell c b (o + (Int.toNat a) * 2) = some (.int .i64 f) /\ ∃ g : Int, hcell c b ((o + (Int.toNat a) * 2) + 1) = some (.int .i64 g) /\ ∃ b2 o2, s2A = some ⟨b2, o2, none⟩ /\ 0 <= a /\ a < (s2L : Nat) /\ ∃ i : Int, hcell c b2 (o2 + (Int.toNat a) * 2) = some (.int .i64 i) /\ ∃ j : Int, hcell c b2 ((o2 + (Int.toNat a) * 2) + 1) = some (.int .i64 j) /\ cnd (!((f == i) && (g == j)))
    (R (.bool false) c)
    (d [.int .i64 (IntKind.i64.wrap (a + (1 : Int)))] c /\ e [.int .i64 (IntKind.i64.wrap (a + (1 : Int)))] c < e [.int .i64 a] c))
   (R (.bool true) c))
theorem calls113 {h : Heap} {R : Value -> Heap -> Prop} (s1A : Option Addr) (s1L s1C : Nat) (s2A : Option Addr) (s2L s2C : Nat) (H : S113 s1A s1L s1C s2A s2L s2C h R) : CallsH Tryz.prog 113 #[.slice s1A s1L s1C, .slice s2A s2L s2C] h R := by
 have e : S113 s1A s1L s1C s2A s2L s2C h R = FX (envX [] 26) { loops := [(0, ⟨[0, 1, 12], [13], [], []⟩)], joins := [], blocks := [], draws := [(6, ⟨9, false⟩)] } Tryz.f113 (Tryz.f113.body.getD .skip) [.slice s1A s1L s1C, .slice s2A s2L s2C] h R := by kernel_rfl
 exact calls_of_FX (envX_ok _ _) Tryz.func113 (by kernel_rfl) (by kernel_rfl) (by kernel_rfl) (e ▸ H)
def Ok113 (s1V : List (Int × Int)) (s2V : List (Int × Int)) (R : Bool -> Prop) : Prop :=
 ∀ (h : Heap) (s1A : Option Addr) (s1L s1C : Nat) (s2A : Option Addr) (s2L s2C : Nat), Hp h [Ck.vw eP s1A s1L s1C s1V, Ck.vw eP s2A s2L s2C s2V] -> CallsH Tryz.prog 113 #[.slice s1A s1L s1C, .slice s2A s2L s2C] h fun v h' => ∃ (rV : Bool), Sy h [] h' [] /\ v = .bool rV /\ R rV
def T113 (s1V : List (Int × Int)) (s2V : List (Int × Int)) (R : Bool -> Prop) : Prop :=
 cnd (((s1V.length : Nat) : Int) != ((s2V.length : Nat) : Int))
  (R false)
  (∃ (b : Int -> Prop) (e : Int -> Nat), b 0 /\
  ∀ a : Int, b a ->
  cnd (decide (a < ((s1V.length : Nat) : Int)))
   (0 <= a /\ a < ((s1V.length : Nat) : Int) /\ ∀ c : (Int × Int), s1V[(Int.toNat a)]? = some c -> 0 <= a /\ a < ((s2V.length : Nat) : Int) /\ ∀ d : (Int × Int), s2V[(Int.toNat a)]? = some d -> cnd (!((c.1 == d.1) && (c.2 == d.2)))
    (R false)
    (b (IntKind.i64.wrap (a + (1 : Int))) /\ e (IntKind.i64.wrap (a + (1 : Int))) < e a))
   (R true))
theorem ok113 {s1V s2V} {R : Bool -> Prop} (T : T113 s1V s2V R) : Ok113 s1V s2V R := by
 intro h s1A s1L s1C s2A s2L s2C H
 have Y : Sy h [] h _ := Sy.startM H rfl
 obtain rfl := Y.lenV 0 rfl
 obtain rfl := Y.lenV 1 rfl
 apply calls113
 unfold S113
 unfold T113 at T
 refine cnd_imp T (fun T => ?_) (fun T => ?_)
 ·exact ⟨_, Y.pick [] rfl, rfl, T⟩
 ·obtain ⟨Iv, m, T0, T1⟩ := T
  obtain ⟨B, hB, YB⟩ := Y.cut [] [0, 1] rfl
  obtain ⟨JJ, hJJ⟩ : ∃ JJ : Nat -> List Value -> Heap -> Prop, JJ = (fun k lz h' => ∃ (x : Int), lz = [.int .i64 x] /\ Sy h [] h' ([] ++ B) /\ Iv x /\ m x = k) := ⟨_, rfl⟩
  refine ⟨fun lz h' => ∃ k, JJ k lz h', Lm JJ, ?_, ?_⟩
  ·subst hJJ hB
   exact ⟨_, _, rfl, YB, T0, rfl⟩
  ·clear YB T0 Y
   intro x hv hI
   obtain ⟨k, hI, hm⟩ := loopIn hI
   subst hJJ hB
   obtain ⟨x, e, Y, T, rfl⟩ := hI
   cases e
   replace T := T1 x T
   have Y : Sy _ _ _ [_, _] := Y
   refine cnd_imp T (fun T => ?_) (fun T => ?_)
   ·have Y0 := Y
    have F : Fr [] hv hv := Fr.refl _ _
    obtain ⟨q, q_2, T⟩ := T
    obtain ⟨b_2, o_2, hb, hr, s, hx⟩ := Y0.atV 0 rfl q q_2
    refine ⟨b_2, o_2, hb, q, q_2, ?_⟩
    replace T := T s hx
    refine ⟨_, Y0.cellV 0 rfl hb (t := 0) hx rfl, ?_⟩
    refine ⟨_, Y0.cellV 0 rfl hb (t := 1) hx rfl, ?_⟩
    obtain ⟨q_3, q_4, T⟩ := T
    obtain ⟨b_3, o_3, hb_2, hr_2, s_2, hx_2⟩ := Y0.atV 1 rfl q_3 q_4
    refine ⟨b_3, o_3, hb_2, q_3, q_4, ?_⟩
    replace T := T s_2 hx_2
    refine ⟨_, Y0.cellV 1 rfl hb_2 (t := 0) hx_2 rfl, ?_⟩
    refine ⟨_, Y0.cellV 1 rfl hb_2 (t := 1) hx_2 rfl, ?_⟩
    refine cnd_imp T (fun T => ?_) (fun T => ?_)
    ·exact ⟨_, Y.pick [] rfl, rfl, T⟩
    ·exact loopBack hm ⟨_, rfl, Y.pick [0, 1] rfl, T.1, rfl⟩ T.2
   ·exact ⟨_, Y.pick [] rfl, rfl, T⟩
def S61 (x : Nat) (y : Nat) (h : Heap) (R : Value -> Heap -> Prop) : Prop :=
 let a := fun (l : Bool) (f : Heap) =>
  (R (.bool l) f)
 cnd ((FloatKind.f64).format.order x x != some .eq)
  (cnd ((FloatKind.f64).format.order y y != some .eq)
   (R (.bool true) h)
   (callE Tryz.prog 101 #[.float .f64 x] fun g =>
   ∃ b : Int, g = .int .u64 b /\
   callE Tryz.prog 101 #[.float .f64 y] fun i =>
   ∃ c : Int, i = .int .u64 c /\
   a (b == c) h))
  (callE Tryz.prog 101 #[.float .f64 x] fun j =>
  ∃ d : Int, j = .int .u64 d /\
  callE Tryz.prog 101 #[.float .f64 y] fun k =>
  ∃ e : Int, k = .int .u64 e /\
  a (d == e) h)
theorem calls61 {h : Heap} {R : Value -> Heap -> Prop} (x : Nat) (y : Nat) (H : S61 x y h R) : CallsH Tryz.prog 61 #[.float .f64 x, .float .f64 y] h R := by
 have e : S61 x y h R = FX (envX [] 20) { loops := [], joins := [], blocks := [], draws := [] } Tryz.f61 (Tryz.f61.body.getD .skip) [.float .f64 x, .float .f64 y] h R := by kernel_rfl
 exact calls_of_FX (envX_ok _ _) Tryz.func61 (by kernel_rfl) (by kernel_rfl) (by kernel_rfl) (e ▸ H)
def Ok61 (x : Nat) (y : Nat) (R : Bool -> Prop) : Prop :=
 ∀ (h : Heap), Hp h [] -> CallsH Tryz.prog 61 #[.float .f64 x, .float .f64 y] h fun v h' => ∃ (rV : Bool), Sy h [] h' [] /\ v = .bool rV /\ R rV
def T61 (x : Nat) (y : Nat) (R : Bool -> Prop) : Prop :=
 ∃ a : Bool -> Prop,
 ( cnd ((FloatKind.f64).format.order x x != some .eq)
   (cnd ((FloatKind.f64).format.order y y != some .eq)
    (R true)
    (callE Tryz.prog 101 #[.float .f64 x] fun g =>
    ∃ b : Int, g = .int .u64 b /\
    callE Tryz.prog 101 #[.float .f64 y] fun h =>
    ∃ c : Int, h = .int .u64 c /\
    a (b == c)))
   (callE Tryz.prog 101 #[.float .f64 x] fun i =>
   ∃ d : Int, i = .int .u64 d /\
   callE Tryz.prog 101 #[.float .f64 y] fun j =>
   ∃ e : Int, j = .int .u64 e /\
   a (d == e))) /\
 ∀ f : Bool, a f ->
 R f
theorem ok61 {x y} {R : Bool -> Prop} (T : T61 x y R) : Ok61 x y R := by
 intro h  H
 have Y : Sy h [] h _ := Sy.startM H rfl
 apply calls61
 unfold S61
 unfold T61 at T
 obtain ⟨Jv, T0, T1⟩ := T
 obtain ⟨B, hB, _⟩ := Y.cut [] [] rfl
 intro K
 have hK : ∀ (x2 : Bool) (hv : Heap), (Sy h [] hv ([] ++ B) /\ Jv x2) -> K x2 hv := by
  subst hB
  clear T0 Y
  rintro x2 hv ⟨Y, T⟩
  replace T := T1 x2 T
  have Y : Sy _ _ _ [] := Y
  unfold K
  exact ⟨_, Y.pick [] rfl, rfl, T⟩
 subst hB
 replace T := T0
 clear T0 T1
 refine cnd_imp T (fun T => ?_) (fun T => ?_)
 ·refine cnd_imp T (fun T => ?_) (fun T => ?_)
  ·exact ⟨_, Y.pick [] rfl, rfl, T⟩
  ·obtain ⟨Rx_2, hx_2, T⟩ := T
   refine ⟨Rx_2, hx_2, fun v hv => ?_⟩
   obtain ⟨r, rfl, T⟩ := T v hv
   refine ⟨r, rfl, ?_⟩
   obtain ⟨Rx, hx, T⟩ := T
   refine ⟨Rx, hx, fun v2 hv => ?_⟩
   obtain ⟨r2, rfl, T⟩ := T v2 hv
   refine ⟨r2, rfl, ?_⟩
   exact hK _ _ ⟨Y.pick [] rfl, T⟩
 ·obtain ⟨Rx_4, hx_4, T⟩ := T
  refine ⟨Rx_4, hx_4, fun v3 hv => ?_⟩
  obtain ⟨r3, rfl, T⟩ := T v3 hv
  refine ⟨r3, rfl, ?_⟩
  obtain ⟨Rx_3, hx_3, T⟩ := T
  refine ⟨Rx_3, hx_3, fun v4 hv => ?_⟩
  obtain ⟨r4, rfl, T⟩ := T v4 hv
  refine ⟨r4, rfl, ?_⟩
  exact hK _ _ ⟨Y.pick [] rfl, T⟩
def S62 (a : Int) (aA : Option Addr) (aL aC : Nat) (b : Int) (bA : Option Addr) (bL bC : Nat) (h : Heap) (R : Value -> Heap -> Prop) : Prop :=
 let c : Heap := h.push (.cells #[.int .i64 a, .slice aA aL aC] 24)
 let d : Heap := c.push (.cells #[.int .i64 b, .slice bA bL bC] 24)
 cnd (a == b)
  (callX Tryz.prog 113 #[.slice aA aL aC, .slice bA bL bC] d [c.size, h.size] fun g f =>
  ∃ e : Bool, g = .bool e /\
  R (.bool e) f)
  (R (.bool false) d)
theorem calls62 {h : Heap} {R : Value -> Heap -> Prop} (a : Int) (aA : Option Addr) (aL aC : Nat) (b : Int) (bA : Option Addr) (bL bC : Nat) (H : S62 a aA aL aC b bA bL bC h R) : CallsH Tryz.prog 62 #[.agg #[.int .i64 a, .slice aA aL aC], .agg #[.int .i64 b, .slice bA bL bC]] h R := by
 have e : S62 a aA aL aC b bA bL bC h R = FX (envX [2, 3] 17) { loops := [], joins := [], blocks := [], draws := [] } Tryz.f62 (Tryz.f62.body.getD .skip) [.agg #[.int .i64 a, .slice aA aL aC], .agg #[.int .i64 b, .slice bA bL bC]] h R := by kernel_rfl
 exact calls_of_FX (envX_ok _ _) Tryz.func62 (by kernel_rfl) (by kernel_rfl) (by kernel_rfl) (e ▸ H)
def Ok62 (a : Int) (edgesV : List (Int × Int)) (b : Int) (edgesV2 : List (Int × Int)) (R : Bool -> Prop) : Prop :=
 ∀ (h : Heap) (aA : Option Addr) (aL aC : Nat) (bA : Option Addr) (bL bC : Nat), Hp h [Ck.vw eP aA aL aC edgesV, Ck.vw eP bA bL bC edgesV2] -> CallsH Tryz.prog 62 #[.agg #[.int .i64 a, .slice aA aL aC], .agg #[.int .i64 b, .slice bA bL bC]] h fun v h' => ∃ (rV : Bool), Sy h [] h' [] /\ v = .bool rV /\ R rV
def T62 (a : Int) (edgesV : List (Int × Int)) (b : Int) (edgesV2 : List (Int × Int)) (R : Bool -> Prop) : Prop :=
 cnd (a == b)
  (Ok113 edgesV edgesV2 (fun c =>
  R c))
  (R false)
theorem ok62 {a edgesV b edgesV2} {R : Bool -> Prop} (T : T62 a edgesV b edgesV2 R) : Ok62 a edgesV b edgesV2 R := by
 intro h aA aL aC bA bL bC H
 have Y : Sy h [] h _ := Sy.startM H rfl
 obtain rfl := Y.lenV 0 rfl
 obtain rfl := Y.lenV 1 rfl
 apply calls62
 unfold S62
 unfold T62 at T
 intro hv
 have Y : Sy _ _ hv [_, _, _] := Y.junk _
 clear_value hv
 intro hv2
 have Y : Sy _ _ hv2 [_, _, _, _] := Y.junk _
 clear_value hv2
 refine cnd_imp T (fun T => ?_) (fun T => ?_)
 ·refine callX_sy (T _ _ _ _ _ _ _ (Y.pick [0, 1] rfl).hp) (fun _ _ ⟨_, p, _⟩ => p.fr) (allc (fun h => by cases h) (allc (fun h => by cases h) alln)) ?_
  rintro v hv3 ⟨r, PP, rfl, T⟩
  have Y : Sy _ _ hv3 [_, _, _, _] := Y.gr PP.fr
  clear PP
  refine ⟨r, rfl, ?_⟩
  exact ⟨_, Y.pick [] rfl, rfl, T⟩
 ·exact ⟨_, Y.pick [] rfl, rfl, T⟩
def S63 (s1A : Option Addr) (s1L s1C : Nat) (s2A : Option Addr) (s2L s2C : Nat) (h : Heap) (R : Value -> Heap -> Prop) : Prop :=
 cnd (((s1L : Nat) : Int) != ((s2L : Nat) : Int))
  (R (.bool false) h)
  (∃ (d : List Value -> Heap -> Prop) (e : List Value -> Heap -> Nat), d [.int .i64 0] h /\
  ∀ a : Int, ∀ c, d [.int .i64 a] c ->
  cnd (decide (a < ((s1L : Nat) : Int)))
   (∃ b o, s1A = some ⟨b, o, none⟩ /\ 0 <= a /\ a < (s1L : Nat) /\ ∃ f : ByteArray, hcell c b (o + (Int.toNat a) * 1) = some (.string f) /\ ∃ b2 o2, s2A = some ⟨b2, o2, none⟩ /\ 0 <= a /\ a < (s2L : Nat) /\ ∃ g : ByteArray, hcell c b2 (o2 + (Int.toNat a) * 1) = some (.string g) /\ cnd (!(f.toList == g.toList))
    (R (.bool false) c)
    (d [.int .i64 (IntKind.i64.wrap (a + (1 : Int)))] c /\ e [.int .i64 (IntKind.i64.wrap (a + (1 : Int)))] c < e [.int .i64 a] c))
   (R (.bool true) c))
theorem calls63 {h : Heap} {R : Value -> Heap -> Prop} (s1A : Option Addr) (s1L s1C : Nat) (s2A : Option Addr) (s2L s2C : Nat) (H : S63 s1A s1L s1C s2A s2L s2C h R) : CallsH Tryz.prog 63 #[.slice s1A s1L s1C, .slice s2A s2L s2C] h R := by
 have e : S63 s1A s1L s1C s2A s2L s2C h R = FX (envX [] 26) { loops := [(0, ⟨[0, 1, 12], [13], [], []⟩)], joins := [], blocks := [], draws := [(6, ⟨9, false⟩)] } Tryz.f63 (Tryz.f63.body.getD .skip) [.slice s1A s1L s1C, .slice s2A s2L s2C] h R := by kernel_rfl
 exact calls_of_FX (envX_ok _ _) Tryz.func63 (by kernel_rfl) (by kernel_rfl) (by kernel_rfl) (e ▸ H)
def Ok63 (s1V : List ByteArray) (s2V : List ByteArray) (R : Bool -> Prop) : Prop :=
 ∀ (h : Heap) (s1A : Option Addr) (s1L s1C : Nat) (s2A : Option Addr) (s2L s2C : Nat), Hp h [Ck.vw eS s1A s1L s1C s1V, Ck.vw eS s2A s2L s2C s2V] -> CallsH Tryz.prog 63 #[.slice s1A s1L s1C, .slice s2A s2L s2C] h fun v h' => ∃ (rV : Bool), Sy h [] h' [] /\ v = .bool rV /\ R rV
def T63 (s1V : List ByteArray) (s2V : List ByteArray) (R : Bool -> Prop) : Prop :=
 cnd (((s1V.length : Nat) : Int) != ((s2V.length : Nat) : Int))
  (R false)
  (∃ (b : Int -> Prop) (c : Int -> Nat), b 0 /\
  ∀ a : Int, b a ->
  cnd (decide (a < ((s1V.length : Nat) : Int)))
   (0 <= a /\ a < ((s1V.length : Nat) : Int) /\ ∀ d : ByteArray, s1V[(Int.toNat a)]? = some d -> 0 <= a /\ a < ((s2V.length : Nat) : Int) /\ ∀ e : ByteArray, s2V[(Int.toNat a)]? = some e -> cnd (!(d.toList == e.toList))
    (R false)
    (b (IntKind.i64.wrap (a + (1 : Int))) /\ c (IntKind.i64.wrap (a + (1 : Int))) < c a))
   (R true))
theorem ok63 {s1V s2V} {R : Bool -> Prop} (T : T63 s1V s2V R) : Ok63 s1V s2V R := by
 intro h s1A s1L s1C s2A s2L s2C H
 have Y : Sy h [] h _ := Sy.startM H rfl
 obtain rfl := Y.lenV 0 rfl
 obtain rfl := Y.lenV 1 rfl
 apply calls63
 unfold S63
 unfold T63 at T
 refine cnd_imp T (fun T => ?_) (fun T => ?_)
 ·exact ⟨_, Y.pick [] rfl, rfl, T⟩
 ·obtain ⟨Iv, m, T0, T1⟩ := T
  obtain ⟨B, hB, YB⟩ := Y.cut [] [0, 1] rfl
  obtain ⟨JJ, hJJ⟩ : ∃ JJ : Nat -> List Value -> Heap -> Prop, JJ = (fun k lz h' => ∃ (x : Int), lz = [.int .i64 x] /\ Sy h [] h' ([] ++ B) /\ Iv x /\ m x = k) := ⟨_, rfl⟩
  refine ⟨fun lz h' => ∃ k, JJ k lz h', Lm JJ, ?_, ?_⟩
  ·subst hJJ hB
   exact ⟨_, _, rfl, YB, T0, rfl⟩
  ·clear YB T0 Y
   intro x hv hI
   obtain ⟨k, hI, hm⟩ := loopIn hI
   subst hJJ hB
   obtain ⟨x, e, Y, T, rfl⟩ := hI
   cases e
   replace T := T1 x T
   have Y : Sy _ _ _ [_, _] := Y
   refine cnd_imp T (fun T => ?_) (fun T => ?_)
   ·have Y0 := Y
    have F : Fr [] hv hv := Fr.refl _ _
    obtain ⟨q, q_2, T⟩ := T
    obtain ⟨b_2, o_2, hb, hr, s, hx⟩ := Y0.atV 0 rfl q q_2
    refine ⟨b_2, o_2, hb, q, q_2, ?_⟩
    replace T := T s hx
    refine ⟨_, Y0.cellV 0 rfl hb (t := 0) hx rfl, ?_⟩
    obtain ⟨q_3, q_4, T⟩ := T
    obtain ⟨b_3, o_3, hb_2, hr_2, s_2, hx_2⟩ := Y0.atV 1 rfl q_3 q_4
    refine ⟨b_3, o_3, hb_2, q_3, q_4, ?_⟩
    replace T := T s_2 hx_2
    refine ⟨_, Y0.cellV 1 rfl hb_2 (t := 0) hx_2 rfl, ?_⟩
    refine cnd_imp T (fun T => ?_) (fun T => ?_)
    ·exact ⟨_, Y.pick [] rfl, rfl, T⟩
    ·exact loopBack hm ⟨_, rfl, Y.pick [0, 1] rfl, T.1, rfl⟩ T.2
   ·exact ⟨_, Y.pick [] rfl, rfl, T⟩
def S60 (x : Nat) (x2 : Nat) (y : Nat) (y2 : Nat) (h : Heap) (R : Value -> Heap -> Prop) : Prop :=
 let a : Heap := h.push (.cells #[.float .f64 x, .float .f64 x2] 78)
 let e : Heap := a.push (.cells #[.float .f64 y, .float .f64 y2] 78)
 callX Tryz.prog 61 #[.float .f64 x, .float .f64 y] e [a.size, h.size] fun g b =>
 ∃ c : Bool, g = .bool c /\
 cnd c
  (callX Tryz.prog 61 #[.float .f64 x2, .float .f64 y2] b [a.size, h.size] fun i f =>
  ∃ d : Bool, i = .bool d /\
  R (.bool d) f)
  (R (.bool false) b)
theorem calls60 {h : Heap} {R : Value -> Heap -> Prop} (x : Nat) (x2 : Nat) (y : Nat) (y2 : Nat) (H : S60 x x2 y y2 h R) : CallsH Tryz.prog 60 #[.agg #[.float .f64 x, .float .f64 x2], .agg #[.float .f64 y, .float .f64 y2]] h R := by
 have e : S60 x x2 y y2 h R = FX (envX [2, 3] 17) { loops := [], joins := [], blocks := [], draws := [] } Tryz.f60 (Tryz.f60.body.getD .skip) [.agg #[.float .f64 x, .float .f64 x2], .agg #[.float .f64 y, .float .f64 y2]] h R := by kernel_rfl
 exact calls_of_FX (envX_ok _ _) Tryz.func60 (by kernel_rfl) (by kernel_rfl) (by kernel_rfl) (e ▸ H)
def S64 (s1A : Option Addr) (s1L s1C : Nat) (s2A : Option Addr) (s2L s2C : Nat) (eqF : Fn) (eqX eqY : Array Value) (h : Heap) (R : Value -> Heap -> Prop) : Prop :=
 cnd (((s1L : Nat) : Int) != ((s2L : Nat) : Int))
  (R (.bool false) h)
  (∃ (e : List Value -> Heap -> Prop) (l : List Value -> Heap -> Nat), e [.int .i64 0] h /\
  ∀ a : Int, ∀ c, e [.int .i64 a] c ->
  cnd (decide (a < ((s1L : Nat) : Int)))
   (∃ b o, s1A = some ⟨b, o, none⟩ /\ 0 <= a /\ a < (s1L : Nat) /\ ∃ g : Nat, hcell c b (o + (Int.toNat a) * 2) = some (.float .f64 g) /\ ∃ i : Nat, hcell c b ((o + (Int.toNat a) * 2) + 1) = some (.float .f64 i) /\ let n : Heap := c.push (.cells #[.float .f64 0, .float .f64 0] 78)
   let d : Heap := hset (hset n c.size 0 (.float .f64 g)) c.size (0 + 1) (.float .f64 i)
   ∃ b2 o2, s2A = some ⟨b2, o2, none⟩ /\ 0 <= a /\ a < (s2L : Nat) /\ ∃ j : Nat, hcell d b2 (o2 + (Int.toNat a) * 2) = some (.float .f64 j) /\ ∃ k : Nat, hcell d b2 ((o2 + (Int.toNat a) * 2) + 1) = some (.float .f64 k) /\ let p : Heap := d.push (.cells #[.float .f64 0, .float .f64 0] 78)
   let q : Heap := hset (hset p d.size 0 (.float .f64 j)) d.size (0 + 1) (.float .f64 k)
   callV Tryz.prog fnsX [] none eqF eqX eqY [.agg #[.float .f64 g, .float .f64 i], .agg #[.float .f64 j, .float .f64 k]] q [d.size, c.size] fun r f =>
   ∃ m : Bool, r = .bool m /\
   cnd (!m)
    (R (.bool false) f)
    (e [.int .i64 (IntKind.i64.wrap (a + (1 : Int)))] f /\ l [.int .i64 (IntKind.i64.wrap (a + (1 : Int)))] f < l [.int .i64 a] c))
   (R (.bool true) c))
theorem calls64 {h : Heap} {R : Value -> Heap -> Prop} (s1A : Option Addr) (s1L s1C : Nat) (s2A : Option Addr) (s2L s2C : Nat) (eqF : Fn) (eqX eqY : Array Value) (H : S64 s1A s1L s1C s2A s2L s2C eqF eqX eqY h R) : CallsH Tryz.prog 64 #[.slice s1A s1L s1C, .slice s2A s2L s2C, .func eqF eqX eqY] h R := by
 have e : S64 s1A s1L s1C s2A s2L s2C eqF eqX eqY h R = FX (envX [8, 9] 32) { loops := [(0, ⟨[1, 2, 15, 16], [17], [], []⟩)], joins := [], blocks := [], draws := [] } Tryz.f64 (Tryz.f64.body.getD .skip) [.slice s1A s1L s1C, .slice s2A s2L s2C, .func eqF eqX eqY] h R := by kernel_rfl
 exact calls_of_FX (envX_ok _ _) Tryz.func64 (by kernel_rfl) (by kernel_rfl) (by kernel_rfl) (e ▸ H)
def S65 (s1A : Option Addr) (s1L s1C : Nat) (s2A : Option Addr) (s2L s2C : Nat) (eqF : Fn) (eqX eqY : Array Value) (h : Heap) (R : Value -> Heap -> Prop) : Prop :=
 cnd (((s1L : Nat) : Int) != ((s2L : Nat) : Int))
  (R (.bool false) h)
  (∃ (d : List Value -> Heap -> Prop) (f : List Value -> Heap -> Nat), d [.int .i64 0] h /\
  ∀ a : Int, ∀ c, d [.int .i64 a] c ->
  cnd (decide (a < ((s1L : Nat) : Int)))
   (∃ b o, s1A = some ⟨b, o, none⟩ /\ 0 <= a /\ a < (s1L : Nat) /\ ∃ i : Nat, hcell c b (o + (Int.toNat a) * 1) = some (.float .f64 i) /\ ∃ b2 o2, s2A = some ⟨b2, o2, none⟩ /\ 0 <= a /\ a < (s2L : Nat) /\ ∃ j : Nat, hcell c b2 (o2 + (Int.toNat a) * 1) = some (.float .f64 j) /\ callV Tryz.prog fnsX [] none eqF eqX eqY [.float .f64 i, .float .f64 j] c [] fun k e =>
   ∃ g : Bool, k = .bool g /\
   cnd (!g)
    (R (.bool false) e)
    (d [.int .i64 (IntKind.i64.wrap (a + (1 : Int)))] e /\ f [.int .i64 (IntKind.i64.wrap (a + (1 : Int)))] e < f [.int .i64 a] c))
   (R (.bool true) c))
theorem calls65 {h : Heap} {R : Value -> Heap -> Prop} (s1A : Option Addr) (s1L s1C : Nat) (s2A : Option Addr) (s2L s2C : Nat) (eqF : Fn) (eqX eqY : Array Value) (H : S65 s1A s1L s1C s2A s2L s2C eqF eqX eqY h R) : CallsH Tryz.prog 65 #[.slice s1A s1L s1C, .slice s2A s2L s2C, .func eqF eqX eqY] h R := by
 have e : S65 s1A s1L s1C s2A s2L s2C eqF eqX eqY h R = FX (envX [] 32) { loops := [(0, ⟨[1, 2, 15, 16], [17], [], []⟩)], joins := [], blocks := [], draws := [] } Tryz.f65 (Tryz.f65.body.getD .skip) [.slice s1A s1L s1C, .slice s2A s2L s2C, .func eqF eqX eqY] h R := by kernel_rfl
 exact calls_of_FX (envX_ok _ _) Tryz.func65 (by kernel_rfl) (by kernel_rfl) (by kernel_rfl) (e ▸ H)
def S24 (a : Int) (aA : Option Addr) (aL aC : Nat) (a2 : Bool) (aA2 : Option Addr) (aL2 aC2 : Nat) (aA3 : Option Addr) (aL3 aC3 : Nat) (aA4 : Option Addr) (aL4 aC4 : Nat) (b : Int) (bA : Option Addr) (bL bC : Nat) (b2 : Bool) (bA2 : Option Addr) (bL2 bC2 : Nat) (bA3 : Option Addr) (bL3 bC3 : Nat) (bA4 : Option Addr) (bL4 bC4 : Nat) (h : Heap) (R : Value -> Heap -> Prop) : Prop :=
 let c : Heap := h.push (.cells #[.int .i64 a, .slice aA aL aC, .bool a2, .slice aA2 aL2 aC2, .slice aA3 aL3 aC3, .slice aA4 aL4 aC4] 29)
 let m : Heap := c.push (.cells #[.int .i64 b, .slice bA bL bC, .bool b2, .slice bA2 bL2 bC2, .slice bA3 bL3 bC3, .slice bA4 bL4 bC4] 29)
 let d := fun (o : Heap) =>
  (R (.bool false) o)
 callX Tryz.prog 62 #[.agg #[.int .i64 a, .slice aA aL aC], .agg #[.int .i64 b, .slice bA bL bC]] m [c.size, h.size] fun p e =>
 ∃ i : Bool, p = .bool i /\
 cnd i
  (cnd (a2 == b2)
   (callX Tryz.prog 63 #[.slice aA2 aL2 aC2, .slice bA2 bL2 bC2] e [c.size, h.size] fun q f =>
   ∃ j : Bool, q = .bool j /\
   cnd j
    (callX Tryz.prog 64 #[.slice aA3 aL3 aC3, .slice bA3 bL3 bC3, .func (.func 60) #[] #[]] f [c.size, h.size] fun r g =>
    ∃ k : Bool, r = .bool k /\
    cnd k
     (callX Tryz.prog 65 #[.slice aA4 aL4 aC4, .slice bA4 bL4 bC4, .func (.func 61) #[] #[]] g [c.size, h.size] fun s n =>
     ∃ l : Bool, s = .bool l /\
     R (.bool l) n)
     (d g))
    (d f))
   (d e))
  (d e)
theorem calls24 {h : Heap} {R : Value -> Heap -> Prop} (a : Int) (aA : Option Addr) (aL aC : Nat) (a2 : Bool) (aA2 : Option Addr) (aL2 aC2 : Nat) (aA3 : Option Addr) (aL3 aC3 : Nat) (aA4 : Option Addr) (aL4 aC4 : Nat) (b : Int) (bA : Option Addr) (bL bC : Nat) (b2 : Bool) (bA2 : Option Addr) (bL2 bC2 : Nat) (bA3 : Option Addr) (bL3 bC3 : Nat) (bA4 : Option Addr) (bL4 bC4 : Nat) (H : S24 a aA aL aC a2 aA2 aL2 aC2 aA3 aL3 aC3 aA4 aL4 aC4 b bA bL bC b2 bA2 bL2 bC2 bA3 bL3 bC3 bA4 bL4 bC4 h R) : CallsH Tryz.prog 24 #[.agg #[.int .i64 a, .slice aA aL aC, .bool a2, .slice aA2 aL2 aC2, .slice aA3 aL3 aC3, .slice aA4 aL4 aC4], .agg #[.int .i64 b, .slice bA bL bC, .bool b2, .slice bA2 bL2 bC2, .slice bA3 bL3 bC3, .slice bA4 bL4 bC4]] h R := by
 have e : S24 a aA aL aC a2 aA2 aL2 aC2 aA3 aL3 aC3 aA4 aL4 aC4 b bA bL bC b2 bA2 bL2 bC2 bA3 bL3 bC3 bA4 bL4 bC4 h R = FX (envX [2, 3] 40) { loops := [], joins := [], blocks := [], draws := [] } Tryz.f24 (Tryz.f24.body.getD .skip) [.agg #[.int .i64 a, .slice aA aL aC, .bool a2, .slice aA2 aL2 aC2, .slice aA3 aL3 aC3, .slice aA4 aL4 aC4], .agg #[.int .i64 b, .slice bA bL bC, .bool b2, .slice bA2 bL2 bC2, .slice bA3 bL3 bC3, .slice bA4 bL4 bC4]] h R := by kernel_rfl
 exact calls_of_FX (envX_ok _ _) Tryz.func24 (by kernel_rfl) (by kernel_rfl) (by kernel_rfl) (e ▸ H)
end Go.Proofs.YtlflalecmhgmjaaGreatDoor.N
namespace Go.Proofs.YtlflalecmhgmjaaGreatDoor.N
open Go.Proofs.YtlflalecmhgmjaaGreatDoor
open Go.X
set_option maxRecDepth 100000
set_option maxHeartbeats 2000000
def S269 (x : Nat) (h : Heap) (R : Value -> Heap -> Prop) : Prop :=
 cnd ((FloatKind.f64).format.order x x != some .eq)
  (callE Tryz.prog 143 #[.int .u64 9221120237041090561] fun b =>
  ∃ a : Nat, b = .float .f64 a /\
  R (.float .f64 a) h)
  (cnd ((FloatKind.f64).format.order x 0 == some .eq)
   (R (.float .f64 0) h)
   (R (.float .f64 x) h))
theorem calls269 {h : Heap} {R : Value -> Heap -> Prop} (x : Nat) (H : S269 x h R) : CallsH Tryz.prog 269 #[.float .f64 x] h R := by
 have e : S269 x h R = FX (envX [] 10) { loops := [], joins := [], blocks := [], draws := [] } Tryz.f269 (Tryz.f269.body.getD .skip) [.float .f64 x] h R := by kernel_rfl
 exact calls_of_FX (envX_ok _ _) Tryz.func269 (by kernel_rfl) (by kernel_rfl) (by kernel_rfl) (e ▸ H)
end Go.Proofs.YtlflalecmhgmjaaGreatDoor.N
namespace Go.Proofs.YtlflalecmhgmjaaGreatDoor.N
open Go.Proofs.YtlflalecmhgmjaaGreatDoor
open Go.X
set_option maxRecDepth 100000
def isNaN (x : Nat) : Bool := (FloatKind.f64.format.read x).isNaN
abbrev F64 : Ieee.Format := FloatKind.f64.format
theorem order_self (x : Nat) : F64.order x x = if isNaN x then none else some .eq := by
 unfold Ieee.Format.order isNaN Ieee.Datum.order Ieee.Datum.isNaN
 cases F64.read x with
 | nan s t => simp
 | infinity s => simp [Std.compare_self] <;> cases s <;> rfl
 | number s m i => simp [Std.compare_self]
theorem order_ne (x : Nat) : (F64.order x x != some .eq) = isNaN x := by
 rw [order_self]; cases isNaN x <;> rfl
def cleanM (x : Nat) : Nat := if isNaN x then 9221120237041090561 else if F64.order x 0 == some .eq then 0 else x
theorem ext_run {P : Program} {f : FuncId} {fn : Func} {e : Array Value -> Sem Value} {args : Array Value} (hf : P.funcs[f]? = some fn) (hname : (fn.name == "runtime.NumGoroutine") = false) (hb : fn.body.isNone = true)
  (hn : Extern.findNext fn = none) (he : Extern.find fn = some e) (w : World) : (callFunc f args).run P w = ((e args).run P w).andThen fun v w' => .ok (.value v) w' := by
 have h1 : ¬ fn.name = "runtime.NumGoroutine" := by simpa using hname
 have h2 : fn.body = none := by simpa using hb
 simp [callFunc, hf, hn, he, h1, h2]
theorem ext_pure {P : Program} {f : FuncId} {fn : Func} {e : Array Value -> Sem Value} {args : Array Value} {v : Value} (hf : P.funcs[f]? = some fn) (hname : (fn.name == "runtime.NumGoroutine") = false) (hb : fn.body.isNone = true)
  (hn : Extern.findNext fn = none) (he : Extern.find fn = some e) (hv : e args = pure v) : ExtH P f args (· = v) := by
 intro w
 refine ⟨v, w, ?_, rfl, Rest.refl w, rfl⟩
 rw [ext_run hf hname hb hn he, hv]; simp
theorem from143 (n : Int) : ExtH Tryz.prog 143 #[.int .u64 n] (· = .float .f64 n.toNat) :=
 ext_pure Tryz.func143 (by kernel_rfl) (by kernel_rfl) (by kernel_rfl) (e := Extern.MathFloatBits.float64frombits) (by kernel_rfl) rfl
theorem callE_of {f : FuncId} {args : Array Value} {v : Value} {K : Value -> Prop} (h : ExtH Tryz.prog f args (· = v)) (k : K v) : callE Tryz.prog f args K := ⟨_, h, fun _ e => e ▸ k⟩
theorem ok269 : ClFn cleanM := by
 intro x h
 apply calls269
 unfold S269
 rw [order_ne]
 refine cnd_b (fun hx => callE_of (from143 _) ⟨_, rfl, ?_⟩) fun hx => cnd_b (fun h0 => ?_) fun h0 => ?_
 ·exact ⟨by simp [cleanM, hx], Fr.refl _ _⟩
 ·have h0 : (F64.order x 0 == some .eq) = true := h0
  exact ⟨by simp [cleanM, hx, h0], Fr.refl _ _⟩
 ·have h0 : (F64.order x 0 == some .eq) = false := h0
  exact ⟨by simp [cleanM, hx, h0], Fr.refl _ _⟩
theorem ok_clean : G.ClOK cleanM := by
 have n1 : isNaN 9221120237041090561 = true := by decide +kernel
 have n0 : isNaN 0 = false := by decide +kernel
 have n2 : isNaN G.one64 = false := by decide +kernel
 have o2 : (F64.order G.one64 0 == some .eq) = false := by decide +kernel
 refine ⟨fun x => ?_, ?_, ?_⟩
 ·unfold cleanM
  by_cases h : isNaN x = true
  ·simp [h, n1]
  ·by_cases h0 : (F64.order x 0 == some .eq) = true
   ·simp [h, h0, n0]
   ·simp [h, h0]
 ·simp [cleanM, n0]
 ·simp [cleanM, n2, o2]
end Go.Proofs.YtlflalecmhgmjaaGreatDoor.N
namespace Go.Proofs.YtlflalecmhgmjaaGreatDoor.N
open Go.Proofs.YtlflalecmhgmjaaGreatDoor
open Go.X
open Go.Proofs
set_option maxRecDepth 100000
theorem bits101' (b : Nat) : ExtH Tryz.prog 101 #[.float .f64 b] (· = .int .u64 b) :=
 ext_pure Tryz.func101 (by kernel_rfl) (by kernel_rfl) (by kernel_rfl) (e := Extern.MathFloatBits.float64bits) (by kernel_rfl) rfl
def fe (x y : Nat) : Bool := (isNaN x && isNaN y) || x == y
def fe2 (p q : Nat × Nat) : Bool := fe p.1 q.1 && fe p.2 q.2
theorem ok61' {x y : Nat} {R : Bool -> Prop} (r : R (fe x y)) : Ok61 x y R := by
 apply ok61
 unfold T61
 rw [order_ne, order_ne]
 have e : (((x : Int)) == ((y : Int))) = (x == y) := by rw [Bool.eq_iff_iff]; simp; omega
 unfold fe at r
 refine ⟨fun b => b = (x == y) /\ (isNaN x && isNaN y) = false, cnd_b (fun h1 => cnd_b (fun h2 => ?_) fun h2 => ?_) fun h1 => ?_, ?_⟩
 ·rw [h1, h2] at r; exact r
 ·exact callE_of (bits101' _) ⟨_, rfl, callE_of (bits101' _) ⟨_, rfl, e, by rw [h2, Bool.and_false]⟩⟩
 ·exact callE_of (bits101' _) ⟨_, rfl, callE_of (bits101' _) ⟨_, rfl, e, by rw [h1]; rfl⟩⟩
 ·rintro _ ⟨rfl, h⟩
  rw [h, Bool.false_or] at r; exact r
theorem c61 {x y : Nat} {h : Heap} : CallsH Tryz.prog 61 #[.float .f64 x, .float .f64 y] h fun v h' => v = .bool (fe x y) /\ Fr [] h h' :=
 (ok61' (R := fun r => r = fe x y) rfl h (Hp.nil h)).mono fun v h' ⟨r, Y, e, q⟩ => ⟨by rw [e, q], Y.fr⟩
theorem c60 {x x2 y y2 : Nat} {h : Heap} : CallsH Tryz.prog 60 #[.agg #[.float .f64 x, .float .f64 x2], .agg #[.float .f64 y, .float .f64 y2]] h fun v h' => v = .bool (fe2 (x, x2) (y, y2)) /\ Fr [] h h' := by
 apply calls60
 unfold S60
 intro h1 h2
 have f2 : Fr [] h h2 := (Fr.push h _).pushr _
 clear_value h2
 refine callX_ofR [] c61 (by simp) (fun _ _ r => r.2) ?_
 rintro v h3 ⟨rfl, f3⟩
 refine ⟨_, rfl, cnd_b (fun q => ?_) fun q => ⟨by unfold fe2; rw [q]; rfl, f2.trans f3⟩⟩
 refine callX_ofR [] c61 (by simp) (fun _ _ r => r.2) ?_
 rintro v h4 ⟨rfl, f4⟩
 exact ⟨_, rfl, by unfold fe2; rw [q]; rfl, (f2.trans f3).trans f4⟩
def eqL {α : Type} (f : α -> α -> Bool) (xs ys : List α) : Bool := decide (xs.length = ys.length) && (xs.zip ys).all fun p => f p.1 p.2
theorem eqL_len {α : Type} {f : α -> α -> Bool} {xs ys : List α} (h : xs.length ≠ ys.length) : eqL f xs ys = false := by unfold eqL; rw [decide_eq_false h]; rfl
theorem eqL_no {α : Type} {f : α -> α -> Bool} {xs ys : List α} {k : Nat} {x y : α} (hx : xs[k]? = some x) (hy : ys[k]? = some y) (h : f x y = false) : eqL f xs ys = false := by
 unfold eqL
 have : ((xs.zip ys).all fun p => f p.1 p.2) = false := by
  rw [List.all_eq_false]
  refine ⟨(x, y), List.mem_of_getElem? (i := k) ?_, by simp [h]⟩
  rw [List.getElem?_zip_eq_some]; exact ⟨hx, hy⟩
 rw [this, Bool.and_false]
theorem eqL_step {α : Type} {f : α -> α -> Bool} {xs ys : List α} {k : Nat} {x y : α} (hx : xs[k]? = some x) (hy : ys[k]? = some y) (h : f x y = true) (ha : ((xs.zip ys).take k).all (fun p => f p.1 p.2) = true) :
  ((xs.zip ys).take (k + 1)).all (fun p => f p.1 p.2) = true := by
 have : (xs.zip ys)[k]? = some (x, y) := by rw [List.getElem?_zip_eq_some]; exact ⟨hx, hy⟩
 rw [List.take_add_one, this]
 simp only [List.all_append, ha, Bool.true_and, Option.toList, List.all_cons, List.all_nil, Bool.and_true]
 exact h
theorem eqL_yes {α : Type} {f : α -> α -> Bool} {xs ys : List α} {k : Nat} (hl : xs.length = ys.length) (hk : xs.length <= k) (ha : ((xs.zip ys).take k).all (fun p => f p.1 p.2) = true) : eqL f xs ys = true := by
 unfold eqL
 rw [decide_eq_true hl, Bool.true_and]
 rwa [List.take_of_length_le (by rw [List.length_zip]; omega)] at ha
theorem eqL_eq {α : Type} [DecidableEq α] (xs ys : List α) : eqL (fun x y => decide (x = y)) xs ys = decide (xs = ys) := by
 by_cases hl : xs.length = ys.length
 ·by_cases he : xs = ys
  ·subst he
   rw [decide_eq_true rfl]
   unfold eqL
   simp
   intro a b h
   have := List.mem_iff_getElem?.1 h
   obtain ⟨i, hi⟩ := this
   rw [List.getElem?_zip_eq_some] at hi
   have := hi.1.symm.trans hi.2
   exact Option.some.inj this
  ·rw [decide_eq_false he]
   rw [<- Bool.not_eq_true]
   intro h
   unfold eqL at h
   simp only [Bool.and_eq_true, List.all_eq_true, decide_eq_true_eq] at h
   refine he (List.ext_getElem? fun i => ?_)
   by_cases hi : i < xs.length
   ·have h1 : xs[i]? = some xs[i] := List.getElem?_eq_getElem hi
    have h2 : ys[i]? = some ys[i] := List.getElem?_eq_getElem (by omega)
    have := h.2 (xs[i], ys[i]) (List.mem_of_getElem? (i := i) (by rw [List.getElem?_zip_eq_some]; exact ⟨h1, h2⟩))
    rw [h1, h2]; exact congrArg some this
   ·rw [List.getElem?_eq_none (by omega), List.getElem?_eq_none (by omega)]
 ·rw [eqL_len hl, decide_eq_false (fun e => hl (by rw [e]))]
theorem strEqK (s t : ByteArray) : (s.toList == t.toList) = decide (s = t) := by
 rw [Lib.toList_data, Lib.toList_data]
 by_cases h : s = t
 ·subst h; simp
 ·rw [decide_eq_false h]
  rw [beq_eq_false_iff_ne]
  intro e
  exact h (ByteArray.ext (Array.ext' e))
theorem ok63' {xs ys : List ByteArray} (hx : xs.length <= 9223372036854775807) {R : Bool -> Prop} (r : R (decide (xs = ys))) : Ok63 xs ys R := by
 apply ok63
 unfold T63
 rw [<- eqL_eq] at r
 refine cnd_ne (fun h => ?_) fun h => ?_
 ·rw [eqL_len (by omega)] at r; exact r
 refine ⟨fun i => ∃ k : Nat, i = k /\ k <= xs.length /\ ((xs.zip ys).take k).all (fun p => decide (p.1 = p.2)) = true, fun i => ((xs.length : Int) - i).toNat, ⟨0, rfl, by omega, by simp⟩, ?_⟩
 rintro _ ⟨k, rfl, hk, ha⟩
 refine cnd_dec (fun hlt => ⟨by omega, hlt, fun x hx => ⟨by omega, by omega, fun y hy => ?_⟩⟩) fun hlt => ?_
 ·have hx : xs[k]? = some x := by simpa using hx
  have hy : ys[k]? = some y := by simpa using hy
  rw [strEqK]
  refine cnd_not (fun q => ?_) fun q => ?_
  ·rw [eqL_no (f := fun x y => decide (x = y)) hx hy q] at r; exact r
  ·rw [wr (by omega) (by omega)]
   exact ⟨⟨k + 1, by simp, by omega, eqL_step (f := fun x y => decide (x = y)) hx hy q ha⟩, by dsimp only; omega⟩
 ·rw [eqL_yes (f := fun x y => decide (x = y)) (by omega) (show xs.length <= k by omega) ha] at r; exact r
theorem ok113' {xs ys : List (Int × Int)} (hx : xs.length <= 9223372036854775807) {R : Bool -> Prop} (r : R (decide (xs = ys))) : Ok113 xs ys R := by
 apply ok113
 unfold T113
 rw [<- eqL_eq] at r
 refine cnd_ne (fun h => ?_) fun h => ?_
 ·rw [eqL_len (by omega)] at r; exact r
 refine ⟨fun i => ∃ k : Nat, i = k /\ k <= xs.length /\ ((xs.zip ys).take k).all (fun p => decide (p.1 = p.2)) = true, fun i => ((xs.length : Int) - i).toNat, ⟨0, rfl, by omega, by simp⟩, ?_⟩
 rintro _ ⟨k, rfl, hk, ha⟩
 refine cnd_dec (fun hlt => ⟨by omega, hlt, fun x hx => ⟨by omega, by omega, fun y hy => ?_⟩⟩) fun hlt => ?_
 ·have hx : xs[k]? = some x := by simpa using hx
  have hy : ys[k]? = some y := by simpa using hy
  have e : ((x.1 == y.1) && (x.2 == y.2)) = decide (x = y) := by
   rw [Bool.eq_iff_iff]; simp [Prod.ext_iff]
  rw [e]
  refine cnd_not (fun q => ?_) fun q => ?_
  ·rw [eqL_no (f := fun x y => decide (x = y)) hx hy q] at r; exact r
  ·rw [wr (by omega) (by omega)]
   exact ⟨⟨k + 1, by simp, by omega, eqL_step (f := fun x y => decide (x = y)) hx hy q ha⟩, by dsimp only; omega⟩
 ·rw [eqL_yes (f := fun x y => decide (x = y)) (by omega) (show xs.length <= k by omega) ha] at r; exact r
theorem ok62' {a b : Int} {xs ys : List (Int × Int)} (hx : xs.length <= 9223372036854775807) {R : Bool -> Prop} (r : R (decide (a = b) && decide (xs = ys))) : Ok62 a xs b ys R := by
 apply ok62
 unfold T62
 refine cnd_eq (fun h => ok113' hx ?_) fun h => ?_
 ·rw [decide_eq_true h, Bool.true_and] at r; exact r
 ·rw [decide_eq_false h, Bool.false_and] at r; exact r
section
variable {h : Heap} {aX aY : Option Addr} {nX cX nY cY : Nat}
theorem c65 {xs ys : List Nat} (H : Hp h [Ck.vw eF aX nX cX xs, Ck.vw eF aY nY cY ys]) (hx : xs.length <= 9223372036854775806) :
  CallsH Tryz.prog 65 #[.slice aX nX cX, .slice aY nY cY, .func (.func 61) #[] #[]] h fun v h' => v = .bool (eqL fe xs ys) /\ Fr [] h h' := by
 apply calls65
 unfold S65
 have Q := Sq.start H
 have l1 := Q.sy.lenV 0 rfl
 have l2 := Q.sy.lenV 1 rfl
 refine cnd_ne (fun q => ⟨by rw [eqL_len (by omega)], Fr.refl _ _⟩) fun q => ?_
 refine ⟨fun lz h' => ∃ k : Nat, lz = [.int .i64 (k : Int)] /\ k <= xs.length /\ ((xs.zip ys).take k).all (fun p => fe p.1 p.2) = true /\ Fr [] h h', fun lz _ => match lz with | [.int _ i] => ((xs.length : Int) - i).toNat | _ => 0, ⟨0, rfl, by omega, by simp, Fr.refl _ _⟩, ?_⟩
 rintro x h1 ⟨k, hk0, hk, ha, f1⟩
 obtain rfl : x = (k : Int) := by simpa using hk0
 have Q1 := Q.gr f1
 refine cnd_dec (fun hlt => ?_) fun hlt => ⟨by rw [eqL_yes (by omega) (show xs.length <= k by omega) ha], f1⟩
 obtain ⟨b1, o1, e1, _, x, hx⟩ := Q1.sy.atV 0 rfl (i := (k : Int)) (by omega) (by omega)
 obtain ⟨b2, o2, e2, _, y, hy⟩ := Q1.sy.atV 1 rfl (i := (k : Int)) (by omega) (by omega)
 refine ⟨b1, o1, e1, by omega, by omega, x, Q1.sy.cellV 0 rfl e1 (i := k) (t := 0) hx rfl, b2, o2, e2, by omega, by omega, y, Q1.sy.cellV 1 rfl e2 (i := k) (t := 0) hy rfl, ?_⟩
 show callX _ _ _ _ _ _
 refine callX_ofR [] c61 (by simp) (fun _ _ r => r.2) ?_
 rintro v h2 ⟨rfl, f2⟩
 refine ⟨_, rfl, cnd_not (fun q1 => ⟨by rw [eqL_no hx hy q1], f1.trans f2⟩) fun q1 => ?_⟩
 rw [wr (by omega) (by omega)]
 exact ⟨⟨k + 1, by simp, by omega, eqL_step hx hy q1 ha, f1.trans f2⟩, by dsimp only; omega⟩
theorem c64 {xs ys : List (Nat × Nat)} (H : Hp h [Ck.vw eFF aX nX cX xs, Ck.vw eFF aY nY cY ys]) (hx : xs.length <= 9223372036854775806) :
  CallsH Tryz.prog 64 #[.slice aX nX cX, .slice aY nY cY, .func (.func 60) #[] #[]] h fun v h' => v = .bool (eqL fe2 xs ys) /\ Fr [] h h' := by
 apply calls64
 unfold S64
 have Q := Sq.start H
 have l1 := Q.sy.lenV 0 rfl
 have l2 := Q.sy.lenV 1 rfl
 refine cnd_ne (fun q => ⟨by rw [eqL_len (by omega)], Fr.refl _ _⟩) fun q => ?_
 refine ⟨fun lz h' => ∃ k : Nat, lz = [.int .i64 (k : Int)] /\ k <= xs.length /\ ((xs.zip ys).take k).all (fun p => fe2 p.1 p.2) = true /\ Fr [] h h', fun lz _ => match lz with | [.int _ i] => ((xs.length : Int) - i).toNat | _ => 0, ⟨0, rfl, by omega, by simp, Fr.refl _ _⟩, ?_⟩
 rintro x h1 ⟨k, hk0, hk, ha, f1⟩
 obtain rfl : x = (k : Int) := by simpa using hk0
 have Q1 := Q.gr f1
 refine cnd_dec (fun hlt => ?_) fun hlt => ⟨by rw [eqL_yes (by omega) (show xs.length <= k by omega) ha], f1⟩
 obtain ⟨b1, o1, e1, _, x, hx⟩ := Q1.sy.atV 0 rfl (i := (k : Int)) (by omega) (by omega)
 refine ⟨b1, o1, e1, by omega, by omega, x.1, Q1.sy.cellV 0 rfl e1 (i := k) (t := 0) hx rfl, x.2, Q1.sy.cellV 0 rfl e1 (i := k) (t := 1) hx rfl, ?_⟩
 intro h2 h3
 have f3 : Fr [] h1 h3 := ((Fr.push h1 _).hsetL (Nat.le_refl _)).hsetL (Nat.le_refl _)
 have Q3 := Q1.gr f3
 have s3 : h1.size < h3.size := by simp [h3, h2]
 clear_value h3
 obtain ⟨b2, o2, e2, _, y, hy⟩ := Q3.sy.atV 1 rfl (i := (k : Int)) (by omega) (by omega)
 refine ⟨b2, o2, e2, by omega, by omega, y.1, Q3.sy.cellV 1 rfl e2 (i := k) (t := 0) hy rfl, y.2, Q3.sy.cellV 1 rfl e2 (i := k) (t := 1) hy rfl, ?_⟩
 intro h4 h5
 have f5 : Fr [] h1 h5 := ((f3.pushr _).hsetL (by omega)).hsetL (by omega)
 clear_value h5
 show callX _ _ _ _ _ _
 refine callX_ofR [] (c60 (x := x.1) (x2 := x.2) (y := y.1) (y2 := y.2)) (by simp) (fun _ _ r => r.2) ?_
 rintro v h6 ⟨rfl, f6⟩
 refine ⟨_, rfl, cnd_not (fun q1 => ⟨by rw [eqL_no hx hy q1], (f1.trans f5).trans f6⟩) fun q1 => ?_⟩
 rw [wr (by omega) (by omega)]
 exact ⟨⟨k + 1, by simp, by omega, eqL_step hx hy q1 ha, (f1.trans f5).trans f6⟩, by dsimp only; omega⟩
end
structure MD where
 n : Int
 dir : Bool
 es : List (Int × Int)
 ls : List ByteArray
 ss : List (Nat × Nat)
 ws : List Nat
def sameB (a b : MD) : Bool := (decide (a.n = b.n) && decide (a.es = b.es)) && ((a.dir == b.dir) && (decide (a.ls = b.ls) && (eqL fe2 a.ss b.ss && eqL fe a.ws b.ws)))
structure MDs where
 aE : Option Addr
 nE : Nat
 cE : Nat
 aL : Option Addr
 nL : Nat
 cL : Nat
 aS : Option Addr
 nS : Nat
 cS : Nat
 aW : Option Addr
 nW : Nat
 cW : Nat
def MD.vw (d : MD) (s : MDs) : List Ck := [Ck.vw eP s.aE s.nE s.cE d.es, Ck.vw eS s.aL s.nL s.cL d.ls, Ck.vw eFF s.aS s.nS s.cS d.ss, Ck.vw eF s.aW s.nW s.cW d.ws]
def MD.v (d : MD) (s : MDs) : Value := .agg #[.int .i64 d.n, .slice s.aE s.nE s.cE, .bool d.dir, .slice s.aL s.nL s.cL, .slice s.aS s.nS s.cS, .slice s.aW s.nW s.cW]
theorem ok24 {a b : MD} {s t : MDs} {h : Heap} (H : Hp h (a.vw s ++ b.vw t)) (hl : a.es.length <= 9223372036854775806 /\ a.ls.length <= 9223372036854775806 /\ a.ss.length <= 9223372036854775806 /\ a.ws.length <= 9223372036854775806) :
  CallsH Tryz.prog 24 #[a.v s, b.v t] h fun v h' => v = .bool (sameB a b) /\ Fr [] h h' := by
 apply calls24
 unfold S24
 intro h1 h2 K
 have f2 : Fr [] h h2 := (Fr.push h _).pushr _
 have Q := (Sq.start H).gr f2
 clear_value h2
 refine callX_ofR (R := fun v h' => v = .bool (decide (a.n = b.n) && decide (a.es = b.es)) /\ Fr [] h2 h') [] ?_ (by simp) (fun _ _ r => r.2) ?_
 ·exact (ok62' (R := fun r => r = (decide (a.n = b.n) && decide (a.es = b.es))) (by omega) rfl h2 _ _ _ _ _ _ (Q.pick [0, 4] rfl).hp).mono fun v h' ⟨r, Y, e, q⟩ => ⟨by rw [e, q], Y.fr⟩
 rintro v h3 ⟨rfl, f3⟩
 have F3 := f2.trans f3
 have Q3 := Q.gr f3
 refine ⟨_, rfl, cnd_b (fun q1 => ?_) fun q1 => ⟨by unfold sameB; rw [q1]; rfl, F3⟩⟩
 refine cnd_b (fun q2 => ?_) fun q2 => ⟨by unfold sameB; rw [q2]; simp, F3⟩
 refine callX_ofR (R := fun v h' => v = .bool (decide (a.ls = b.ls)) /\ Fr [] h3 h') [] ?_ (by simp) (fun _ _ r => r.2) ?_
 ·exact (ok63' (R := fun r => r = decide (a.ls = b.ls)) (by omega) rfl h3 _ _ _ _ _ _ (Q3.pick [1, 5] rfl).hp).mono fun v h' ⟨r, Y, e, q⟩ => ⟨by rw [e, q], Y.fr⟩
 rintro v h4 ⟨rfl, f4⟩
 have F4 := F3.trans f4
 have Q4 := Q3.gr f4
 refine ⟨_, rfl, cnd_b (fun q3 => ?_) fun q3 => ⟨by unfold sameB; rw [q3]; simp, F4⟩⟩
 refine callX_ofR [] (c64 (Q4.pick [2, 6] rfl).hp (by omega)) (by simp) (fun _ _ r => r.2) ?_
 rintro v h5 ⟨rfl, f5⟩
 have F5 := F4.trans f5
 have Q5 := Q4.gr f5
 refine ⟨_, rfl, cnd_b (fun q4 => ?_) fun q4 => ⟨by unfold sameB; rw [q4]; simp, F5⟩⟩
 refine callX_ofR [] (c65 (Q5.pick [3, 7] rfl).hp (by omega)) (by simp) (fun _ _ r => r.2) ?_
 rintro v h6 ⟨rfl, f6⟩
 exact ⟨_, rfl, by unfold sameB; rw [q1, q2, q3, q4]; simp, F5.trans f6⟩
end Go.Proofs.YtlflalecmhgmjaaGreatDoor.N
