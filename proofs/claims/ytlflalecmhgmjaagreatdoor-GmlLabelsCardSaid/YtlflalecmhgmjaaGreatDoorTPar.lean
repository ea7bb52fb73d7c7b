/- Functions: what is left to be shown of each, over memory and without: printed by program, tied to the loaded functions by the kernel. Conditions: none. -/
import Derived.Test.YtlflalecmhgmjaaGreatDoorWEnv
import Derived.Test.YtlflalecmhgmjaaGreatDoorYGl
import Derived.Test.YtlflalecmhgmjaaGreatDoorTLib
namespace Go.Proofs.YtlflalecmhgmjaaGreatDoor.N
open Go.Proofs.YtlflalecmhgmjaaGreatDoor
open Go.X
set_option maxRecDepth 100000
set_option linter.unusedVariables false
set_option linter.unusedSimpArgs false
set_option maxHeartbeats 2000000
def Ok377 (sign : Int) (R : Nat -> Prop) : Prop :=
 ∀ (h : Heap), Hp h [] -> CallsH Tryz.prog 377 #[.int .i64 sign] h fun v h' => ∃ (rV : Nat), Sy h [] h' [] /\ v = .float .f64 rV /\ R rV
def Ok378  (R : Nat -> Prop) : Prop :=
 ∀ (h : Heap), Hp h [] -> CallsH Tryz.prog 378 #[] h fun v h' => ∃ (rV : Nat), Sy h [] h' [] /\ v = .float .f64 rV /\ R rV
def S376 (s : ByteArray) (prefixv : ByteArray) (h : Heap) (R : Value -> Heap -> Prop) : Prop :=
 ∃ (f : List Value -> Heap -> Prop) (l : List Value -> Heap -> Nat), f [.int .i64 0] h /\
 ∀ a : Int, ∀ c, f [.int .i64 a] c ->
 cnd (decide (a < (if ((s.size : Nat) : Int) < ((prefixv.size : Nat) : Int) then ((s.size : Nat) : Int) else ((prefixv.size : Nat) : Int))))
  (0 <= a /\ a < ((s.size : Nat) : Int) /\ ∃ b : UInt8, s[Int.toNat a]? = some b /\ let k := fun (m : Int) (d : Heap) =>
   (0 <= a /\ a < ((prefixv.size : Nat) : Int) /\ ∃ i : UInt8, prefixv[Int.toNat a]? = some i /\ cnd (m != ((UInt8.toNat i : Nat) : Int))
    (R (.int .i64 a) d)
    (f [.int .i64 (IntKind.i64.wrap (a + (1 : Int)))] d /\ l [.int .i64 (IntKind.i64.wrap (a + (1 : Int)))] d < l [.int .i64 a] c))
  cnd (decide ((65 : Int) <= ((UInt8.toNat b : Nat) : Int)))
   (∃ e : List Value -> Heap -> Prop,
   ( cnd (decide (((UInt8.toNat b : Nat) : Int) <= (90 : Int)))
     (e [.int .u8 (IntKind.u8.wrap (((UInt8.toNat b : Nat) : Int) + (32 : Int)))] c)
     (e [.int .u8 ((UInt8.toNat b : Nat) : Int)] c)) /\
   ∀ j : Int, ∀ g, e [.int .u8 j] g ->
   k j g)
   (k ((UInt8.toNat b : Nat) : Int) c))
  (R (.int .i64 (if ((s.size : Nat) : Int) < ((prefixv.size : Nat) : Int) then ((s.size : Nat) : Int) else ((prefixv.size : Nat) : Int))) c)
theorem calls376 {h : Heap} {R : Value -> Heap -> Prop} (s : ByteArray) (prefixv : ByteArray) (H : S376 s prefixv h R) : CallsH Tryz.prog 376 #[.string s, .string prefixv] h R := by
 have e : S376 s prefixv h R = FX (envX [] 36) { loops := [(0, ⟨[0, 1, 5], [6], [], []⟩)], joins := [(26, ⟨[0, 1, 5, 6], [7], [], []⟩)], blocks := [], draws := [] } Tryz.f376 (Tryz.f376.body.getD .skip) [.string s, .string prefixv] h R := by kernel_rfl
 exact calls_of_FX (envX_ok _ _) Tryz.func376 (by kernel_rfl) (by kernel_rfl) (by kernel_rfl) (e ▸ H)
def Ok376 (s : ByteArray) (prefixv : ByteArray) (R : Int -> Prop) : Prop :=
 ∀ (h : Heap), Hp h [] -> CallsH Tryz.prog 376 #[.string s, .string prefixv] h fun v h' => ∃ (rV : Int), Sy h [] h' [] /\ v = .int .i64 rV /\ R rV
def T376 (s : ByteArray) (prefixv : ByteArray) (R : Int -> Prop) : Prop :=
 ∃ (e : Int -> Prop) (i : Int -> Nat), e 0 /\
 ∀ a : Int, e a ->
 cnd (decide (a < (if ((s.size : Nat) : Int) < ((prefixv.size : Nat) : Int) then ((s.size : Nat) : Int) else ((prefixv.size : Nat) : Int))))
  (0 <= a /\ a < ((s.size : Nat) : Int) /\ ∃ b : UInt8, s[Int.toNat a]? = some b /\ ∃ d : Int -> Prop,
  ( cnd (decide ((65 : Int) <= ((UInt8.toNat b : Nat) : Int)))
    (∃ c : Int -> Prop,
    ( cnd (decide (((UInt8.toNat b : Nat) : Int) <= (90 : Int)))
     (c (IntKind.u8.wrap (((UInt8.toNat b : Nat) : Int) + (32 : Int))))
     (c ((UInt8.toNat b : Nat) : Int))) /\
    ∀ g : Int, c g ->
    d g)
    (d ((UInt8.toNat b : Nat) : Int))) /\
  ∀ h : Int, d h ->
  0 <= a /\ a < ((prefixv.size : Nat) : Int) /\ ∃ f : UInt8, prefixv[Int.toNat a]? = some f /\ cnd (h != ((UInt8.toNat f : Nat) : Int))
   (R a)
   (e (IntKind.i64.wrap (a + (1 : Int))) /\ i (IntKind.i64.wrap (a + (1 : Int))) < i a))
  (R (if ((s.size : Nat) : Int) < ((prefixv.size : Nat) : Int) then ((s.size : Nat) : Int) else ((prefixv.size : Nat) : Int)))
theorem ok376 {s prefixv} {R : Int -> Prop} (T : T376 s prefixv R) : Ok376 s prefixv R := by
 intro h  H
 have Y : Sy h [] h _ := Sy.startM H rfl
 apply calls376
 unfold S376
 unfold T376 at T
 obtain ⟨Iv, m, T0, T1⟩ := T
 obtain ⟨B, hB, YB⟩ := Y.cut [] [] rfl
 obtain ⟨JJ, hJJ⟩ : ∃ JJ : Nat -> List Value -> Heap -> Prop, JJ = (fun k lz h' => ∃ (i : Int), lz = [.int .i64 i] /\ Sy h [] h' ([] ++ B) /\ Iv i /\ m i = k) := ⟨_, rfl⟩
 refine ⟨fun lz h' => ∃ k, JJ k lz h', Lm JJ, ?_, ?_⟩
 ·subst hJJ hB
  exact ⟨_, _, rfl, YB, T0, rfl⟩
 ·clear YB T0 Y
  intro i hv hI
  obtain ⟨k, hI, hm⟩ := loopIn hI
  subst hJJ hB
  obtain ⟨i, e, Y, T, rfl⟩ := hI
  cases e
  replace T := T1 i T
  have Y : Sy _ _ _ [] := Y
  refine cnd_imp T (fun T => ?_) (fun T => ?_)
  ·obtain ⟨q_3, q_4, T⟩ := T
   refine ⟨q_3, q_4, ?_⟩
   obtain ⟨xc, hq, T⟩ := T
   refine ⟨xc, hq, ?_⟩
   obtain ⟨Jv_2, T0, T1⟩ := T
   obtain ⟨B_2, hB_2, _⟩ := Y.cut [] [] rfl
   intro K
   have hK : ∀ (c2 : Int) (hv3 : Heap), (Sy h [] hv3 ([] ++ B_2) /\ Jv_2 c2) -> K c2 hv3 := by
    subst hB_2
    clear T0 Y
    rintro c2 hv3 ⟨Y, T⟩
    replace T := T1 c2 T
    have Y : Sy _ _ _ [] := Y
    unfold K
    obtain ⟨q, q_2, T⟩ := T
    refine ⟨q, q_2, ?_⟩
    obtain ⟨xc2, hq, T⟩ := T
    refine ⟨xc2, hq, ?_⟩
    refine cnd_imp T (fun T => ?_) (fun T => ?_)
    ·exact ⟨_, Y.pick [] rfl, rfl, T⟩
    ·exact loopBack hm ⟨_, rfl, Y.pick [] rfl, T.1, rfl⟩ T.2
   subst hB_2
   replace T := T0
   clear T0 T1
   refine cnd_imp T (fun T => ?_) (fun T => ?_)
   ·obtain ⟨Jv, T0, T1⟩ := T
    obtain ⟨B_3, hB_3, _⟩ := Y.cut [] [] rfl
    refine ⟨fun lz h' => ∃ (c : Int), lz = [.int .u8 c] /\ Sy h [] h' ([] ++ B_3) /\ Jv c, ?_, ?_⟩
    ·subst hB_3
     replace T := T0
     clear T0 T1
     refine cnd_imp T (fun T => ?_) (fun T => ?_)
     ·exact ⟨_, rfl, Y.pick [] rfl, T⟩
     ·exact ⟨_, rfl, Y.pick [] rfl, T⟩
    ·subst hB_3
     clear T0 Y
     rintro c hv2 ⟨c, e, Y, T⟩
     cases e
     replace T := T1 c T
     have Y : Sy _ _ _ [] := Y
     exact hK _ _ ⟨Y.pick [] rfl, T⟩
   ·exact hK _ _ ⟨Y.pick [] rfl, T⟩
  ·exact ⟨_, Y.pick [] rfl, rfl, T⟩
def S299 (c : Int) (h : Heap) (R : Value -> Heap -> Prop) : Prop :=
 R (.int .u8 (bits .or .u8 c (32 : Int))) h
theorem calls299 {h : Heap} {R : Value -> Heap -> Prop} (c : Int) (H : S299 c h R) : CallsH Tryz.prog 299 #[.int .u8 c] h R := by
 have e : S299 c h R = FX (envX [] 5) { loops := [], joins := [], blocks := [], draws := [] } Tryz.f299 (Tryz.f299.body.getD .skip) [.int .u8 c] h R := by kernel_rfl
 exact calls_of_FX (envX_ok _ _) Tryz.func299 (by kernel_rfl) (by kernel_rfl) (by kernel_rfl) (e ▸ H)
def Ok299 (c : Int) (R : Int -> Prop) : Prop :=
 ∀ (h : Heap), Hp h [] -> CallsH Tryz.prog 299 #[.int .u8 c] h fun v h' => ∃ (rV : Int), Sy h [] h' [] /\ v = .int .u8 rV /\ R rV
def T299 (c : Int) (R : Int -> Prop) : Prop :=
 R (bits .or .u8 c (32 : Int))
theorem ok299 {c} {R : Int -> Prop} (T : T299 c R) : Ok299 c R := by
 intro h  H
 have Y : Sy h [] h _ := Sy.startM H rfl
 apply calls299
 unfold S299
 unfold T299 at T
 exact ⟨_, Y.pick [] rfl, rfl, T⟩
def S364 (s : ByteArray) (h : Heap) (R : Value -> Heap -> Prop) : Prop :=
 cnd (((s.size : Nat) : Int) == (0 : Int))
  (R (.tuple #[.float .f64 0, .int .i64 0, .bool false]) h)
  (0 <= (0 : Int) /\ (0 : Int) < ((s.size : Nat) : Int) /\ ∃ a : UInt8, s[Int.toNat (0 : Int)]? = some a /\ ∃ c : List Value -> Heap -> Prop,
  ( ∃ l : List Value -> Heap -> Prop,
   ( let q := fun (M : Bool) (e : Heap) =>
    (cnd M
     (0 <= (0 : Int) /\ (0 : Int) < ((s.size : Nat) : Int) /\ ∃ u : UInt8, s[Int.toNat (0 : Int)]? = some u /\ ∃ k : List Value -> Heap -> Prop,
     ( cnd (((UInt8.toNat u : Nat) : Int) == (45 : Int))
       (k [.int .i64 (-1)] e)
       (k [.int .i64 1] e)) /\
     ∀ o : Int, ∀ F, k [.int .i64 o] F ->
     0 <= (1 : Int) /\ (1 : Int) <= ((s.size : Nat) : Int) /\ l [.string (s.extract (Int.toNat (1 : Int)) s.size), .int .i64 o, .int .i64 1] F)
     (let A := fun (I : Bool) (i : Heap) =>
      (cnd I
       (l [.string s, .int .i64 1, .int .i64 0] i)
       (let B := fun (O : Bool) (x : Heap) =>
        (cnd O
         (callX Tryz.prog 376 #[.string s, .string (⟨#[110, 97, 110]⟩ : ByteArray)] x [] fun K p =>
         ∃ t : Int, K = .int .i64 t /\
         cnd (t == (3 : Int))
          (callX Tryz.prog 378 #[] p [] fun H P =>
          ∃ v : Nat, H = .float .f64 v /\
          R (.tuple #[.float .f64 v, .int .i64 3, .bool true]) P)
          (c [] p))
         (c [] x))
       cnd (((UInt8.toNat a : Nat) : Int) == (110 : Int))
        (B (((UInt8.toNat a : Nat) : Int) == (110 : Int)) i)
        (B (((UInt8.toNat a : Nat) : Int) == (78 : Int)) i)))
     cnd (((UInt8.toNat a : Nat) : Int) == (105 : Int))
      (A (((UInt8.toNat a : Nat) : Int) == (105 : Int)) e)
      (A (((UInt8.toNat a : Nat) : Int) == (73 : Int)) e)))
   cnd (((UInt8.toNat a : Nat) : Int) == (43 : Int))
    (q (((UInt8.toNat a : Nat) : Int) == (43 : Int)) h)
    (q (((UInt8.toNat a : Nat) : Int) == (45 : Int)) h)) /\
   ∀ r : ByteArray, ∀ j : Int, ∀ m : Int, ∀ z, l [.string r, .int .i64 j, .int .i64 m] z ->
   callX Tryz.prog 376 #[.string r, .string (⟨#[105, 110, 102, 105, 110, 105, 116, 121]⟩ : ByteArray)] z [] fun N n =>
   ∃ b : Int, N = .int .i64 b /\
   let y := fun (d : Int) (f : Heap) =>
    (cnd (d == (3 : Int))
     (callX Tryz.prog 377 #[.int .i64 j] f [] fun S Q =>
     ∃ E : Nat, S = .float .f64 E /\
     R (.tuple #[.float .f64 E, .int .i64 (IntKind.i64.wrap (m + d)), .bool true]) Q)
     (cnd (d == (8 : Int))
      (callX Tryz.prog 377 #[.int .i64 j] f [] fun L J =>
      ∃ C : Nat, L = .float .f64 C /\
      R (.tuple #[.float .f64 C, .int .i64 (IntKind.i64.wrap (m + d)), .bool true]) J)
      (c [] f)))
   cnd (decide ((3 : Int) < b))
    (∃ g : List Value -> Heap -> Prop,
    ( cnd (decide (b < (8 : Int)))
     (g [.int .i64 3] n)
     (g [.int .i64 b] n)) /\
    ∀ G : Int, ∀ D, g [.int .i64 G] D ->
    y G D)
    (y b n)) /\
  ∀ w, c [] w ->
  R (.tuple #[.float .f64 0, .int .i64 0, .bool false]) w)
theorem calls364 {h : Heap} {R : Value -> Heap -> Prop} (s : ByteArray) (H : S364 s h R) : CallsH Tryz.prog 364 #[.string s] h R := by
 have e : S364 s h R = FX (envX [] 50) { loops := [], joins := [(24, ⟨[0], [5], [], []⟩), (34, ⟨[5, 6], [7], [], []⟩)], blocks := [(0, ⟨[], [], [], []⟩), (2, ⟨[], [0, 5, 6], [], []⟩)], draws := [] } Tryz.f364 (Tryz.f364.body.getD .skip) [.string s] h R := by kernel_rfl
 exact calls_of_FX (envX_ok _ _) Tryz.func364 (by kernel_rfl) (by kernel_rfl) (by kernel_rfl) (e ▸ H)
def Ok364 (s : ByteArray) (R : Nat -> Int -> Bool -> Prop) : Prop :=
 ∀ (h : Heap), Hp h [] -> CallsH Tryz.prog 364 #[.string s] h fun v h' => ∃ (raV : Nat) (rbV : Int) (rcV : Bool), Sy h [] h' [] /\ v = .tuple #[.float .f64 raV, .int .i64 rbV, .bool rcV] /\ R raV rbV rcV
def T364 (s : ByteArray) (R : Nat -> Int -> Bool -> Prop) : Prop :=
 cnd (((s.size : Nat) : Int) == (0 : Int))
  (R 0 0 false)
  (0 <= (0 : Int) /\ (0 : Int) < ((s.size : Nat) : Int) /\ ∃ a : UInt8, s[Int.toNat (0 : Int)]? = some a /\ ∃ d : Prop,
  ( ∃ l : ByteArray -> Int -> Int -> Prop,
   ( ∃ j : Bool -> Prop,
   ( cnd (((UInt8.toNat a : Nat) : Int) == (43 : Int))
     (j (((UInt8.toNat a : Nat) : Int) == (43 : Int)))
     (j (((UInt8.toNat a : Nat) : Int) == (45 : Int)))) /\
   ∀ q : Bool, j q ->
   cnd q
    (0 <= (0 : Int) /\ (0 : Int) < ((s.size : Nat) : Int) /\ ∃ r : UInt8, s[Int.toNat (0 : Int)]? = some r /\ ∃ k : Int -> Prop,
    ( cnd (((UInt8.toNat r : Nat) : Int) == (45 : Int))
      (k (-1))
      (k 1)) /\
    ∀ n : Int, k n ->
    0 <= (1 : Int) /\ (1 : Int) <= ((s.size : Nat) : Int) /\ l (s.extract (Int.toNat (1 : Int)) s.size) n 1)
    (∃ g : Bool -> Prop,
    ( cnd (((UInt8.toNat a : Nat) : Int) == (105 : Int))
      (g (((UInt8.toNat a : Nat) : Int) == (105 : Int)))
      (g (((UInt8.toNat a : Nat) : Int) == (73 : Int)))) /\
    ∀ o : Bool, g o ->
    cnd o
     (l s 1 0)
     (∃ f : Bool -> Prop,
     ( cnd (((UInt8.toNat a : Nat) : Int) == (110 : Int))
       (f (((UInt8.toNat a : Nat) : Int) == (110 : Int)))
       (f (((UInt8.toNat a : Nat) : Int) == (78 : Int)))) /\
     ∀ t : Bool, f t ->
     cnd t
      (Ok376 s (⟨#[110, 97, 110]⟩ : ByteArray) (fun v =>
      cnd (v == (3 : Int))
       (Ok378 (fun w =>
       R w 3 true))
       (d)))
      (d)))) /\
   ∀ p : ByteArray, ∀ i : Int, ∀ m : Int, l p i m ->
   Ok376 p (⟨#[105, 110, 102, 105, 110, 105, 116, 121]⟩ : ByteArray) (fun c =>
   ∃ h : Int -> Prop,
   ( cnd (decide ((3 : Int) < c))
    (∃ e : Int -> Prop,
    ( cnd (decide (c < (8 : Int)))
      (e 3)
      (e c)) /\
    ∀ u : Int, e u ->
    h u)
    (h c)) /\
   ∀ b : Int, h b ->
   cnd (b == (3 : Int))
    (Ok377 i (fun y =>
    R y (IntKind.i64.wrap (m + b)) true))
    (cnd (b == (8 : Int))
     (Ok377 i (fun x =>
     R x (IntKind.i64.wrap (m + b)) true))
     (d)))) /\
  (d ->
  R 0 0 false))
theorem ok364 {s} {R : Nat -> Int -> Bool -> Prop} (T : T364 s R) : Ok364 s R := by
 intro h  H
 have Y : Sy h [] h _ := Sy.startM H rfl
 apply calls364
 unfold S364
 unfold T364 at T
 refine cnd_imp T (fun T => ?_) (fun T => ?_)
 ·exact ⟨_, _, _, Y.pick [] rfl, rfl, T⟩
 ·obtain ⟨q_5, q_6, T⟩ := T
  refine ⟨q_5, q_6, ?_⟩
  obtain ⟨xc, hq, T⟩ := T
  refine ⟨xc, hq, ?_⟩
  obtain ⟨Jv, T0, T1⟩ := T
  obtain ⟨B, hB, _⟩ := Y.cut [] [] rfl
  refine ⟨fun lz h' => lz = [] /\ Sy h [] h' ([] ++ B) /\ Jv, ?_, ?_⟩
  ·subst hB
   replace T := T0
   clear T0 T1
   obtain ⟨Jv2, T0, T1⟩ := T
   obtain ⟨B_2, hB_2, _⟩ := Y.cut [] [] rfl
   refine ⟨fun lz h' => ∃ (s2 : ByteArray) (sign2 : Int) (nsign : Int), lz = [.string s2, .int .i64 sign2, .int .i64 nsign] /\ Sy h [] h' ([] ++ B_2) /\ Jv2 s2 sign2 nsign, ?_, ?_⟩
   ·subst hB_2
    replace T := T0
    clear T0 T1
    obtain ⟨Jv_2, T0, T1⟩ := T
    obtain ⟨B_3, hB_3, _⟩ := Y.cut [] [] rfl
    intro K
    have hK : ∀ (x : Bool) (hv : Heap), (Sy h [] hv ([] ++ B_3) /\ Jv_2 x) -> K x hv := by
     subst hB_3
     clear T0 Y
     rintro x hv ⟨Y, T⟩
     replace T := T1 x T
     have Y : Sy _ _ _ [] := Y
     unfold K
     refine cnd_imp T (fun T => ?_) (fun T => ?_)
     ·obtain ⟨q_3, q_4, T⟩ := T
      refine ⟨q_3, q_4, ?_⟩
      obtain ⟨xc2, hq, T⟩ := T
      refine ⟨xc2, hq, ?_⟩
      obtain ⟨Jv3, T0, T1⟩ := T
      obtain ⟨B_4, hB_4, _⟩ := Y.cut [] [] rfl
      refine ⟨fun lz h' => ∃ (sign : Int), lz = [.int .i64 sign] /\ Sy h [] h' ([] ++ B_4) /\ Jv3 sign, ?_, ?_⟩
      ·subst hB_4
       replace T := T0
       clear T0 T1
       refine cnd_imp T (fun T => ?_) (fun T => ?_)
       ·exact ⟨_, rfl, Y.pick [] rfl, T⟩
       ·exact ⟨_, rfl, Y.pick [] rfl, T⟩
      ·subst hB_4
       clear T0 Y
       rintro sign hv4 ⟨sign, e, Y, T⟩
       cases e
       replace T := T1 sign T
       have Y : Sy _ _ _ [] := Y
       obtain ⟨q, q_2, T⟩ := T
       refine ⟨q, q_2, ?_⟩
       exact ⟨_, _, _, rfl, Y.pick [] rfl, T⟩
     ·obtain ⟨Jv_3, T0, T1⟩ := T
      obtain ⟨B_5, hB_5, _⟩ := Y.cut [] [] rfl
      intro K2
      have hK2 : ∀ (x2 : Bool) (hv2 : Heap), (Sy h [] hv2 ([] ++ B_5) /\ Jv_3 x2) -> K2 x2 hv2 := by
       subst hB_5
       clear T0 Y
       rintro x2 hv2 ⟨Y, T⟩
       replace T := T1 x2 T
       have Y : Sy _ _ _ [] := Y
       unfold K2
       refine cnd_imp T (fun T => ?_) (fun T => ?_)
       ·exact ⟨_, _, _, rfl, Y.pick [] rfl, T⟩
       ·obtain ⟨Jv_4, T0, T1⟩ := T
        obtain ⟨B_6, hB_6, _⟩ := Y.cut [] [] rfl
        intro K3
        have hK3 : ∀ (x3 : Bool) (hv3 : Heap), (Sy h [] hv3 ([] ++ B_6) /\ Jv_4 x3) -> K3 x3 hv3 := by
         subst hB_6
         clear T0 Y
         rintro x3 hv3 ⟨Y, T⟩
         replace T := T1 x3 T
         have Y : Sy _ _ _ [] := Y
         unfold K3
         refine cnd_imp T (fun T => ?_) (fun T => ?_)
         ·refine callX_sy (T _ (Hp.nil _)) (fun _ _ ⟨_, p, _⟩ => p.fr) alln ?_
          rintro v4 hv11 ⟨r4, PP, rfl, T⟩
          have Y : Sy _ _ hv11 [] := Y.gr PP.fr
          clear PP
          refine ⟨r4, rfl, ?_⟩
          refine cnd_imp T (fun T => ?_) (fun T => ?_)
          ·refine callX_sy (T _ (Hp.nil _)) (fun _ _ ⟨_, p, _⟩ => p.fr) alln ?_
           rintro v5 hv12 ⟨r5, PP, rfl, T⟩
           have Y : Sy _ _ hv12 [] := Y.gr PP.fr
           clear PP
           refine ⟨r5, rfl, ?_⟩
           exact ⟨_, _, _, Y.pick [] rfl, rfl, T⟩
          ·exact ⟨rfl, Y.pick [] rfl, T⟩
         ·exact ⟨rfl, Y.pick [] rfl, T⟩
        subst hB_6
        replace T := T0
        clear T0 T1
        refine cnd_imp T (fun T => ?_) (fun T => ?_)
        ·exact hK3 _ _ ⟨Y.pick [] rfl, T⟩
        ·exact hK3 _ _ ⟨Y.pick [] rfl, T⟩
      subst hB_5
      replace T := T0
      clear T0 T1
      refine cnd_imp T (fun T => ?_) (fun T => ?_)
      ·exact hK2 _ _ ⟨Y.pick [] rfl, T⟩
      ·exact hK2 _ _ ⟨Y.pick [] rfl, T⟩
    subst hB_3
    replace T := T0
    clear T0 T1
    refine cnd_imp T (fun T => ?_) (fun T => ?_)
    ·exact hK _ _ ⟨Y.pick [] rfl, T⟩
    ·exact hK _ _ ⟨Y.pick [] rfl, T⟩
   ·subst hB_2
    clear T0 Y
    rintro s2 sign2 nsign hv5 ⟨s2, sign2, nsign, e, Y, T⟩
    cases e
    replace T := T1 s2 sign2 nsign T
    have Y : Sy _ _ _ [] := Y
    refine callX_sy (T _ (Hp.nil _)) (fun _ _ ⟨_, p, _⟩ => p.fr) alln ?_
    rintro v hv6 ⟨r, PP, rfl, T⟩
    have Y : Sy _ _ hv6 [] := Y.gr PP.fr
    clear PP
    refine ⟨r, rfl, ?_⟩
    obtain ⟨Jv_5, T0, T1⟩ := T
    obtain ⟨B_7, hB_7, _⟩ := Y.cut [] [] rfl
    intro K4
    have hK4 : ∀ (n2 : Int) (hv8 : Heap), (Sy h [] hv8 ([] ++ B_7) /\ Jv_5 n2) -> K4 n2 hv8 := by
     subst hB_7
     clear T0 Y
     rintro n2 hv8 ⟨Y, T⟩
     replace T := T1 n2 T
     have Y : Sy _ _ _ [] := Y
     unfold K4
     refine cnd_imp T (fun T => ?_) (fun T => ?_)
     ·refine callX_sy (T _ (Hp.nil _)) (fun _ _ ⟨_, p, _⟩ => p.fr) alln ?_
      rintro v2 hv9 ⟨r2, PP, rfl, T⟩
      have Y : Sy _ _ hv9 [] := Y.gr PP.fr
      clear PP
      refine ⟨r2, rfl, ?_⟩
      exact ⟨_, _, _, Y.pick [] rfl, rfl, T⟩
     ·refine cnd_imp T (fun T => ?_) (fun T => ?_)
      ·refine callX_sy (T _ (Hp.nil _)) (fun _ _ ⟨_, p, _⟩ => p.fr) alln ?_
       rintro v3 hv10 ⟨r3, PP, rfl, T⟩
       have Y : Sy _ _ hv10 [] := Y.gr PP.fr
       clear PP
       refine ⟨r3, rfl, ?_⟩
       exact ⟨_, _, _, Y.pick [] rfl, rfl, T⟩
      ·exact ⟨rfl, Y.pick [] rfl, T⟩
    subst hB_7
    replace T := T0
    clear T0 T1
    refine cnd_imp T (fun T => ?_) (fun T => ?_)
    ·obtain ⟨Jv4, T0, T1⟩ := T
     obtain ⟨B_8, hB_8, _⟩ := Y.cut [] [] rfl
     refine ⟨fun lz h' => ∃ (n : Int), lz = [.int .i64 n] /\ Sy h [] h' ([] ++ B_8) /\ Jv4 n, ?_, ?_⟩
     ·subst hB_8
      replace T := T0
      clear T0 T1
      refine cnd_imp T (fun T => ?_) (fun T => ?_)
      ·exact ⟨_, rfl, Y.pick [] rfl, T⟩
      ·exact ⟨_, rfl, Y.pick [] rfl, T⟩
     ·subst hB_8
      clear T0 Y
      rintro n hv7 ⟨n, e, Y, T⟩
      cases e
      replace T := T1 n T
      have Y : Sy _ _ _ [] := Y
      exact hK4 _ _ ⟨Y.pick [] rfl, T⟩
    ·exact hK4 _ _ ⟨Y.pick [] rfl, T⟩
  ·subst hB
   clear T0 Y
   rintro hv13 ⟨e, Y, T⟩
   cases e
   replace T := T1 T
   have Y : Sy _ _ _ [] := Y
   exact ⟨_, _, _, Y.pick [] rfl, rfl, T⟩
def S365 (s : ByteArray) (h : Heap) (R : Value -> Heap -> Prop) : Prop :=
 cnd (decide ((0 : Int) >= ((s.size : Nat) : Int)))
  (R (.tuple #[.int .u64 0, .int .i64 0, .bool false, .bool false, .bool false, .int .i64 0, .bool false]) h)
  (0 <= (0 : Int) /\ (0 : Int) < ((s.size : Nat) : Int) /\ ∃ c6 : UInt8, s[Int.toNat (0 : Int)]? = some c6 /\ ∃ d9 : List Value -> Heap -> Prop,
  ( cnd (((UInt8.toNat c6 : Nat) : Int) == (43 : Int))
    (d9 [.bool false, .int .i64 (IntKind.i64.wrap ((0 : Int) + (1 : Int)))] h)
    (∃ g8 : List Value -> Heap -> Prop,
    ( cnd (((UInt8.toNat c6 : Nat) : Int) == (45 : Int))
     (g8 [.bool true, .int .i64 (IntKind.i64.wrap ((0 : Int) + (1 : Int)))] h)
     (g8 [.bool false, .int .i64 0] h)) /\
    ∀ u4 : Bool, ∀ q4 : Int, ∀ r6, g8 [.bool u4, .int .i64 q4] r6 ->
    d9 [.bool u4, .int .i64 q4] r6)) /\
  ∀ e : Bool, ∀ q : Int, ∀ b3, d9 [.bool e, .int .i64 q] b3 ->
  let n0 := fun (x5 : Heap) =>
   (∃ a3 : List Value -> Heap -> Prop,
   ( ∃ (d0 : List Value -> Heap -> Prop) (o4 : List Value -> Heap -> Nat), d0 [.int .u64 0, .bool false, .int .i64 q, .bool false, .bool false, .bool false, .int .i64 0, .int .i64 0, .int .i64 0] x5 /\
    ∀ l : Int, ∀ v : Bool, ∀ m : Int, ∀ F : Bool, ∀ w : Bool, ∀ L : Bool, ∀ k : Int, ∀ f : Int, ∀ C : Int, ∀ I, d0 [.int .u64 l, .bool v, .int .i64 m, .bool F, .bool w, .bool L, .int .i64 k, .int .i64 f, .int .i64 C] I ->
    cnd (decide (m < ((s.size : Nat) : Int)))
     (∃ O : List Value -> Heap -> Prop,
     ( 0 <= m /\ m < ((s.size : Nat) : Int) /\ ∃ o : UInt8, s[Int.toNat m]? = some o /\ cnd (true == (((UInt8.toNat o : Nat) : Int) == (95 : Int)))
      (O [.int .u64 l, .bool v, .bool true, .bool w, .bool L, .int .i64 k, .int .i64 f, .int .i64 C] I)
      (cnd (true == (((UInt8.toNat o : Nat) : Int) == (46 : Int)))
       (cnd w
        (a3 [.int .u64 l, .bool v, .int .i64 m, .bool F, .bool w, .bool L, .int .i64 k, .int .i64 f, .int .i64 C] I)
        (O [.int .u64 l, .bool v, .bool F, .bool true, .bool L, .int .i64 k, .int .i64 f, .int .i64 k] I))
       (let n2 := fun (x8 : Bool) (Y : Heap) =>
        (cnd x8
         (let s4 := fun (g5 : Heap) =>
          (∃ b8 : List Value -> Heap -> Prop,
          ( cnd (decide (f < (19 : Int)))
            (b8 [.int .u64 (IntKind.u64.wrap ((IntKind.u64.wrap (l * (10 : Int))) + (IntKind.u64.wrap (IntKind.u8.wrap (((UInt8.toNat o : Nat) : Int) - (48 : Int)))))), .bool v, .int .i64 (IntKind.i64.wrap (f + (1 : Int)))] g5)
            (∃ e5 : List Value -> Heap -> Prop,
            ( cnd (((UInt8.toNat o : Nat) : Int) != (48 : Int))
             (e5 [.bool true] g5)
             (e5 [.bool v] g5)) /\
            ∀ m9 : Bool, ∀ l3, e5 [.bool m9] l3 ->
            b8 [.int .u64 l, .bool m9, .int .i64 f] l3)) /\
          ∀ s8 : Int, ∀ r7 : Bool, ∀ l7 : Int, ∀ k8, b8 [.int .u64 s8, .bool r7, .int .i64 l7] k8 ->
          O [.int .u64 s8, .bool r7, .bool F, .bool w, .bool true, .int .i64 (IntKind.i64.wrap (k + (1 : Int))), .int .i64 l7, .int .i64 C] k8)
         cnd (((UInt8.toNat o : Nat) : Int) == (48 : Int))
          (cnd (k == (0 : Int))
           (O [.int .u64 l, .bool v, .bool F, .bool w, .bool true, .int .i64 k, .int .i64 f, .int .i64 (IntKind.i64.wrap (C - (1 : Int)))] Y)
           (s4 Y))
          (s4 Y))
         (let c0 := fun (u7 : Bool) (g7 : Heap) =>
          (cnd u7
           (∃ e8 : List Value -> Heap -> Prop,
           ( cnd (decide (f < (19 : Int)))
             (callX Tryz.prog 299 #[.int .u8 ((UInt8.toNat o : Nat) : Int)] g7 [] fun w9 y3 =>
             ∃ t2 : Int, w9 = .int .u8 t2 /\
             e8 [.int .u64 (IntKind.u64.wrap ((IntKind.u64.wrap (l * (16 : Int))) + (IntKind.u64.wrap (IntKind.u8.wrap ((IntKind.u8.wrap (t2 - (97 : Int))) + (10 : Int)))))), .bool v, .int .i64 (IntKind.i64.wrap (f + (1 : Int)))] y3)
             (e8 [.int .u64 l, .bool true, .int .i64 f] g7)) /\
           ∀ m7 : Int, ∀ s6 : Bool, ∀ k6 : Int, ∀ k3, e8 [.int .u64 m7, .bool s6, .int .i64 k6] k3 ->
           O [.int .u64 m7, .bool s6, .bool F, .bool w, .bool true, .int .i64 (IntKind.i64.wrap (k + (1 : Int))), .int .i64 k6, .int .i64 C] k3)
           (a3 [.int .u64 l, .bool v, .int .i64 m, .bool F, .bool w, .bool L, .int .i64 k, .int .i64 f, .int .i64 C] g7))
         cnd ((10 : Int) == (16 : Int))
          (callX Tryz.prog 299 #[.int .u8 ((UInt8.toNat o : Nat) : Int)] Y [] fun v0 t4 =>
          ∃ j0 : Int, v0 = .int .u8 j0 /\
          cnd (decide ((97 : Int) <= j0))
           (callX Tryz.prog 299 #[.int .u8 ((UInt8.toNat o : Nat) : Int)] t4 [] fun v4 x4 =>
           ∃ m3 : Int, v4 = .int .u8 m3 /\
           c0 (true == (decide (m3 <= (102 : Int)))) x4)
           (c0 (true == false) t4))
          (c0 (true == false) Y)))
       cnd (decide ((48 : Int) <= ((UInt8.toNat o : Nat) : Int)))
        (n2 (true == (decide (((UInt8.toNat o : Nat) : Int) <= (57 : Int)))) I)
        (n2 (true == false) I)))) /\
     ∀ d5 : Int, ∀ i1 : Bool, ∀ d1 : Bool, ∀ e9 : Bool, ∀ c1 : Bool, ∀ h8 : Int, ∀ f5 : Int, ∀ f4 : Int, ∀ h1, O [.int .u64 d5, .bool i1, .bool d1, .bool e9, .bool c1, .int .i64 h8, .int .i64 f5, .int .i64 f4] h1 ->
     d0 [.int .u64 d5, .bool i1, .int .i64 (IntKind.i64.wrap (m + (1 : Int))), .bool d1, .bool e9, .bool c1, .int .i64 h8, .int .i64 f5, .int .i64 f4] h1 /\ o4 [.int .u64 d5, .bool i1, .int .i64 (IntKind.i64.wrap (m + (1 : Int))), .bool d1, .bool e9, .bool c1, .int .i64 h8, .int .i64 f5, .int .i64 f4] h1 < o4 [.int .u64 l, .bool v, .int .i64 m, .bool F, .bool w, .bool L, .int .i64 k, .int .i64 f, .int .i64 C] I)
     (a3 [.int .u64 l, .bool v, .int .i64 m, .bool F, .bool w, .bool L, .int .i64 k, .int .i64 f, .int .i64 C] I)) /\
   ∀ y : Int, ∀ A : Bool, ∀ d : Int, ∀ a4 : Bool, ∀ q3 : Bool, ∀ r2 : Bool, ∀ n1 : Int, ∀ b7 : Int, ∀ o8 : Int, ∀ a6, a3 [.int .u64 y, .bool A, .int .i64 d, .bool a4, .bool q3, .bool r2, .int .i64 n1, .int .i64 b7, .int .i64 o8] a6 ->
   cnd (!r2)
    (R (.tuple #[.int .u64 y, .int .i64 0, .bool e, .bool A, .bool false, .int .i64 d, .bool false]) a6)
    (∃ i4 : List Value -> Heap -> Prop,
    ( cnd (!q3)
      (i4 [.int .i64 n1] a6)
      (i4 [.int .i64 o8] a6)) /\
    ∀ h6 : Int, ∀ i3, i4 [.int .i64 h6] i3 ->
    ∃ e0 : List Value -> Heap -> Prop,
    ( cnd ((10 : Int) == (16 : Int))
      (e0 [.int .i64 (IntKind.i64.wrap (b7 * (4 : Int))), .int .i64 (IntKind.i64.wrap (h6 * (4 : Int)))] i3)
      (e0 [.int .i64 b7, .int .i64 h6] i3)) /\
    ∀ r3 : Int, ∀ a5 : Int, ∀ b2, e0 [.int .i64 r3, .int .i64 a5] b2 ->
    let l5 := fun (a0 : Int) (w1 : Bool) (v2 : Int) (q8 : Heap) =>
     (∃ c9 : List Value -> Heap -> Prop,
     ( cnd (y != (0 : Int))
       (c9 [.int .i64 (IntKind.i64.wrap (v2 - r3))] q8)
       (c9 [.int .i64 0] q8)) /\
     ∀ d2 : Int, ∀ g6, c9 [.int .i64 d2] g6 ->
     let l8 := fun (v3 : Heap) =>
      (R (.tuple #[.int .u64 y, .int .i64 d2, .bool e, .bool A, .bool false, .int .i64 a0, .bool true]) v3)
     cnd w1
      (0 <= a0 /\ a0 <= ((s.size : Nat) : Int) /\ callX Tryz.prog 319 #[.string (s.extract 0 (Int.toNat a0))] g6 [] fun w6 j1 =>
      ∃ r4 : Bool, w6 = .bool r4 /\
      cnd (!r4)
       (R (.tuple #[.int .u64 y, .int .i64 d2, .bool e, .bool A, .bool false, .int .i64 a0, .bool false]) j1)
       (l8 j1))
      (l8 g6))
    cnd (decide (d < ((s.size : Nat) : Int)))
     (0 <= d /\ d < ((s.size : Nat) : Int) /\ ∃ r8 : UInt8, s[Int.toNat d]? = some r8 /\ callX Tryz.prog 299 #[.int .u8 ((UInt8.toNat r8 : Nat) : Int)] b2 [] fun v1 Q =>
     ∃ j8 : Int, v1 = .int .u8 j8 /\
     ∃ b9 : List Value -> Heap -> Prop,
     ( cnd (j8 == (101 : Int))
       (cnd (decide ((IntKind.i64.wrap (d + (1 : Int))) >= ((s.size : Nat) : Int)))
        (R (.tuple #[.int .u64 y, .int .i64 0, .bool e, .bool A, .bool false, .int .i64 (IntKind.i64.wrap (d + (1 : Int))), .bool false]) Q)
        (0 <= (IntKind.i64.wrap (d + (1 : Int))) /\ (IntKind.i64.wrap (d + (1 : Int))) < ((s.size : Nat) : Int) /\ ∃ d3 : UInt8, s[Int.toNat (IntKind.i64.wrap (d + (1 : Int)))]? = some d3 /\ ∃ f8 : List Value -> Heap -> Prop,
        ( cnd (((UInt8.toNat d3 : Nat) : Int) == (43 : Int))
         (f8 [.int .i64 (IntKind.i64.wrap ((IntKind.i64.wrap (d + (1 : Int))) + (1 : Int))), .int .i64 1] Q)
         (∃ e7 : List Value -> Heap -> Prop,
         ( cnd (((UInt8.toNat d3 : Nat) : Int) == (45 : Int))
           (e7 [.int .i64 (IntKind.i64.wrap ((IntKind.i64.wrap (d + (1 : Int))) + (1 : Int))), .int .i64 (-1)] Q)
           (e7 [.int .i64 (IntKind.i64.wrap (d + (1 : Int))), .int .i64 1] Q)) /\
         ∀ k4 : Int, ∀ m8 : Int, ∀ t6, e7 [.int .i64 k4, .int .i64 m8] t6 ->
         f8 [.int .i64 k4, .int .i64 m8] t6)) /\
        ∀ t : Int, ∀ l6 : Int, ∀ a2, f8 [.int .i64 t, .int .i64 l6] a2 ->
        let j5 := fun (w5 : Heap) =>
         (R (.tuple #[.int .u64 y, .int .i64 0, .bool e, .bool A, .bool false, .int .i64 t, .bool false]) w5)
        cnd (decide (t >= ((s.size : Nat) : Int)))
         (j5 a2)
         (0 <= t /\ t < ((s.size : Nat) : Int) /\ ∃ p2 : UInt8, s[Int.toNat t]? = some p2 /\ cnd (decide (((UInt8.toNat p2 : Nat) : Int) < (48 : Int)))
          (j5 a2)
          (0 <= t /\ t < ((s.size : Nat) : Int) /\ ∃ r9 : UInt8, s[Int.toNat t]? = some r9 /\ cnd (decide (((UInt8.toNat r9 : Nat) : Int) > (57 : Int)))
           (R (.tuple #[.int .u64 y, .int .i64 0, .bool e, .bool A, .bool false, .int .i64 t, .bool false]) a2)
           (let p9 := fun (w7 : Int) (x7 : Bool) (v5 : Int) (y2 : Heap) =>
            (b9 [.int .i64 w7, .bool x7, .int .i64 (IntKind.i64.wrap (a5 + (IntKind.i64.wrap (v5 * l6))))] y2)
           ∃ (g4 : List Value -> Heap -> Prop) (n6 : List Value -> Heap -> Nat), g4 [.int .i64 t, .bool a4, .int .i64 0] a2 /\
           ∀ a : Int, ∀ X : Bool, ∀ K : Int, ∀ P, g4 [.int .i64 a, .bool X, .int .i64 K] P ->
           let s7 := fun (d4 : Heap) =>
            (∃ h5 : List Value -> Heap -> Prop,
            ( 0 <= a /\ a < ((s.size : Nat) : Int) /\ ∃ o6 : UInt8, s[Int.toNat a]? = some o6 /\ cnd (((UInt8.toNat o6 : Nat) : Int) == (95 : Int))
             (h5 [.bool true, .int .i64 K] d4)
             (∃ h3 : List Value -> Heap -> Prop,
             ( cnd (decide (K < (10000 : Int)))
               (0 <= a /\ a < ((s.size : Nat) : Int) /\ ∃ l2 : UInt8, s[Int.toNat a]? = some l2 /\ h3 [.int .i64 (IntKind.i64.wrap ((IntKind.i64.wrap ((IntKind.i64.wrap (K * (10 : Int))) + (IntKind.i64.wrap ((UInt8.toNat l2 : Nat) : Int)))) - (48 : Int)))] d4)
               (h3 [.int .i64 K] d4)) /\
             ∀ t9 : Int, ∀ n7, h3 [.int .i64 t9] n7 ->
             h5 [.bool X, .int .i64 t9] n7)) /\
            ∀ c7 : Bool, ∀ i7 : Int, ∀ d8, h5 [.bool c7, .int .i64 i7] d8 ->
            g4 [.int .i64 (IntKind.i64.wrap (a + (1 : Int))), .bool c7, .int .i64 i7] d8 /\ n6 [.int .i64 (IntKind.i64.wrap (a + (1 : Int))), .bool c7, .int .i64 i7] d8 < n6 [.int .i64 a, .bool X, .int .i64 K] P)
           let o3 := fun (x6 : Bool) (t0 : Heap) =>
            (cnd x6
             (s7 t0)
             (p9 a X K t0))
           cnd (decide (a < ((s.size : Nat) : Int)))
            (0 <= a /\ a < ((s.size : Nat) : Int) /\ ∃ t8 : UInt8, s[Int.toNat a]? = some t8 /\ cnd (decide ((48 : Int) <= ((UInt8.toNat t8 : Nat) : Int)))
             (0 <= a /\ a < ((s.size : Nat) : Int) /\ ∃ n5 : UInt8, s[Int.toNat a]? = some n5 /\ cnd (decide (((UInt8.toNat n5 : Nat) : Int) <= (57 : Int)))
              (s7 P)
              (0 <= a /\ a < ((s.size : Nat) : Int) /\ ∃ o0 : UInt8, s[Int.toNat a]? = some o0 /\ o3 (((UInt8.toNat o0 : Nat) : Int) == (95 : Int)) P))
             (0 <= a /\ a < ((s.size : Nat) : Int) /\ ∃ p8 : UInt8, s[Int.toNat a]? = some p8 /\ o3 (((UInt8.toNat p8 : Nat) : Int) == (95 : Int)) P))
            (p9 a X K P))))))
       (cnd ((10 : Int) == (16 : Int))
        (R (.tuple #[.int .u64 y, .int .i64 0, .bool e, .bool A, .bool false, .int .i64 d, .bool false]) Q)
        (b9 [.int .i64 d, .bool a4, .int .i64 a5] Q))) /\
     ∀ n8 : Int, ∀ t3 : Bool, ∀ q6 : Int, ∀ u0, b9 [.int .i64 n8, .bool t3, .int .i64 q6] u0 ->
     l5 n8 t3 q6 u0)
     (cnd ((10 : Int) == (16 : Int))
      (R (.tuple #[.int .u64 y, .int .i64 0, .bool e, .bool A, .bool false, .int .i64 d, .bool false]) b2)
      (l5 d a4 a5 b2))))
  cnd (decide ((IntKind.i64.wrap (q + (2 : Int))) < ((s.size : Nat) : Int)))
   (0 <= q /\ q < ((s.size : Nat) : Int) /\ ∃ k0 : UInt8, s[Int.toNat q]? = some k0 /\ cnd (((UInt8.toNat k0 : Nat) : Int) == (48 : Int))
    (0 <= (IntKind.i64.wrap (q + (1 : Int))) /\ (IntKind.i64.wrap (q + (1 : Int))) < ((s.size : Nat) : Int) /\ ∃ j2 : UInt8, s[Int.toNat (IntKind.i64.wrap (q + (1 : Int)))]? = some j2 /\ callX Tryz.prog 299 #[.int .u8 ((UInt8.toNat j2 : Nat) : Int)] b3 [] fun w0 q0 =>
    ∃ o9 : Int, w0 = .int .u8 o9 /\
    ∃ e3 : List Value -> Heap -> Prop,
    ( cnd (o9 == (120 : Int))
      (e3 [.bool true, .int .i64 (IntKind.i64.wrap (q + (2 : Int))), .int .u64 16, .int .i64 16, .int .u8 112] q0)
      (e3 [.bool false, .int .i64 q, .int .u64 10, .int .i64 19, .int .u8 101] q0)) /\
    ∀ G : Bool, ∀ k2 : Int, ∀ U : Int, ∀ i6 : Int, ∀ q2 : Int, ∀ t5, e3 [.bool G, .int .i64 k2, .int .u64 U, .int .i64 i6, .int .u8 q2] t5 ->
    ∃ a7 : List Value -> Heap -> Prop,
    ( ∃ (f6 : List Value -> Heap -> Prop) (k7 : List Value -> Heap -> Nat), f6 [.int .u64 0, .bool false, .int .i64 k2, .bool false, .bool false, .bool false, .int .i64 0, .int .i64 0, .int .i64 0] t5 /\
     ∀ i : Int, ∀ n : Bool, ∀ p : Int, ∀ E : Bool, ∀ z : Bool, ∀ M : Bool, ∀ j : Int, ∀ g : Int, ∀ B : Int, ∀ H, f6 [.int .u64 i, .bool n, .int .i64 p, .bool E, .bool z, .bool M, .int .i64 j, .int .i64 g, .int .i64 B] H ->
     cnd (decide (p < ((s.size : Nat) : Int)))
      (∃ T : List Value -> Heap -> Prop,
      ( 0 <= p /\ p < ((s.size : Nat) : Int) /\ ∃ r : UInt8, s[Int.toNat p]? = some r /\ cnd (true == (((UInt8.toNat r : Nat) : Int) == (95 : Int)))
       (T [.int .u64 i, .bool n, .bool true, .bool z, .bool M, .int .i64 j, .int .i64 g, .int .i64 B] H)
       (cnd (true == (((UInt8.toNat r : Nat) : Int) == (46 : Int)))
        (cnd z
         (a7 [.int .u64 i, .bool n, .int .i64 p, .bool E, .bool z, .bool M, .int .i64 j, .int .i64 g, .int .i64 B] H)
         (T [.int .u64 i, .bool n, .bool E, .bool true, .bool M, .int .i64 j, .int .i64 g, .int .i64 j] H))
        (let l4 := fun (x2 : Bool) (W : Heap) =>
         (cnd x2
          (let q9 := fun (f2 : Heap) =>
           (∃ c2 : List Value -> Heap -> Prop,
           ( cnd (decide (g < i6))
             (c2 [.int .u64 (IntKind.u64.wrap ((IntKind.u64.wrap (i * U)) + (IntKind.u64.wrap (IntKind.u8.wrap (((UInt8.toNat r : Nat) : Int) - (48 : Int)))))), .bool n, .int .i64 (IntKind.i64.wrap (g + (1 : Int)))] f2)
             (∃ e1 : List Value -> Heap -> Prop,
             ( cnd (((UInt8.toNat r : Nat) : Int) != (48 : Int))
              (e1 [.bool true] f2)
              (e1 [.bool n] f2)) /\
             ∀ r5 : Bool, ∀ r0, e1 [.bool r5] r0 ->
             c2 [.int .u64 i, .bool r5, .int .i64 g] r0)) /\
           ∀ p1 : Int, ∀ u3 : Bool, ∀ u1 : Int, ∀ i9, c2 [.int .u64 p1, .bool u3, .int .i64 u1] i9 ->
           T [.int .u64 p1, .bool u3, .bool E, .bool z, .bool true, .int .i64 (IntKind.i64.wrap (j + (1 : Int))), .int .i64 u1, .int .i64 B] i9)
          cnd (((UInt8.toNat r : Nat) : Int) == (48 : Int))
           (cnd (j == (0 : Int))
            (T [.int .u64 i, .bool n, .bool E, .bool z, .bool true, .int .i64 j, .int .i64 g, .int .i64 (IntKind.i64.wrap (B - (1 : Int)))] W)
            (q9 W))
           (q9 W))
          (let e2 := fun (v7 : Bool) (i2 : Heap) =>
           (cnd v7
            (∃ f9 : List Value -> Heap -> Prop,
            ( cnd (decide (g < i6))
              (callX Tryz.prog 299 #[.int .u8 ((UInt8.toNat r : Nat) : Int)] i2 [] fun v9 w3 =>
              ∃ s5 : Int, v9 = .int .u8 s5 /\
              f9 [.int .u64 (IntKind.u64.wrap ((IntKind.u64.wrap (i * (16 : Int))) + (IntKind.u64.wrap (IntKind.u8.wrap ((IntKind.u8.wrap (s5 - (97 : Int))) + (10 : Int)))))), .bool n, .int .i64 (IntKind.i64.wrap (g + (1 : Int)))] w3)
              (f9 [.int .u64 i, .bool true, .int .i64 g] i2)) /\
            ∀ s9 : Int, ∀ n3 : Bool, ∀ m1 : Int, ∀ l0, f9 [.int .u64 s9, .bool n3, .int .i64 m1] l0 ->
            T [.int .u64 s9, .bool n3, .bool E, .bool z, .bool true, .int .i64 (IntKind.i64.wrap (j + (1 : Int))), .int .i64 m1, .int .i64 B] l0)
            (a7 [.int .u64 i, .bool n, .int .i64 p, .bool E, .bool z, .bool M, .int .i64 j, .int .i64 g, .int .i64 B] i2))
          cnd (U == (16 : Int))
           (callX Tryz.prog 299 #[.int .u8 ((UInt8.toNat r : Nat) : Int)] W [] fun x0 j3 =>
           ∃ o7 : Int, x0 = .int .u8 o7 /\
           cnd (decide ((97 : Int) <= o7))
            (callX Tryz.prog 299 #[.int .u8 ((UInt8.toNat r : Nat) : Int)] j3 [] fun y0 w4 =>
            ∃ m2 : Int, y0 = .int .u8 m2 /\
            e2 (true == (decide (m2 <= (102 : Int)))) w4)
            (e2 (true == false) j3))
           (e2 (true == false) W)))
        cnd (decide ((48 : Int) <= ((UInt8.toNat r : Nat) : Int)))
         (l4 (true == (decide (((UInt8.toNat r : Nat) : Int) <= (57 : Int)))) H)
         (l4 (true == false) H)))) /\
      ∀ h0 : Int, ∀ c8 : Bool, ∀ h9 : Bool, ∀ i5 : Bool, ∀ g2 : Bool, ∀ c4 : Int, ∀ f7 : Int, ∀ e4 : Int, ∀ h4, T [.int .u64 h0, .bool c8, .bool h9, .bool i5, .bool g2, .int .i64 c4, .int .i64 f7, .int .i64 e4] h4 ->
      f6 [.int .u64 h0, .bool c8, .int .i64 (IntKind.i64.wrap (p + (1 : Int))), .bool h9, .bool i5, .bool g2, .int .i64 c4, .int .i64 f7, .int .i64 e4] h4 /\ k7 [.int .u64 h0, .bool c8, .int .i64 (IntKind.i64.wrap (p + (1 : Int))), .bool h9, .bool i5, .bool g2, .int .i64 c4, .int .i64 f7, .int .i64 e4] h4 < k7 [.int .u64 i, .bool n, .int .i64 p, .bool E, .bool z, .bool M, .int .i64 j, .int .i64 g, .int .i64 B] H)
      (a7 [.int .u64 i, .bool n, .int .i64 p, .bool E, .bool z, .bool M, .int .i64 j, .int .i64 g, .int .i64 B] H)) /\
    ∀ x : Int, ∀ D : Bool, ∀ c : Int, ∀ a8 : Bool, ∀ s3 : Bool, ∀ m5 : Bool, ∀ j4 : Int, ∀ d7 : Int, ∀ m0 : Int, ∀ b0, a7 [.int .u64 x, .bool D, .int .i64 c, .bool a8, .bool s3, .bool m5, .int .i64 j4, .int .i64 d7, .int .i64 m0] b0 ->
    cnd (!m5)
     (R (.tuple #[.int .u64 x, .int .i64 0, .bool e, .bool D, .bool G, .int .i64 c, .bool false]) b0)
     (∃ e6 : List Value -> Heap -> Prop,
     ( cnd (!s3)
       (e6 [.int .i64 j4] b0)
       (e6 [.int .i64 m0] b0)) /\
     ∀ i0 : Int, ∀ d6, e6 [.int .i64 i0] d6 ->
     ∃ g1 : List Value -> Heap -> Prop,
     ( cnd (U == (16 : Int))
       (g1 [.int .i64 (IntKind.i64.wrap (d7 * (4 : Int))), .int .i64 (IntKind.i64.wrap (i0 * (4 : Int)))] d6)
       (g1 [.int .i64 d7, .int .i64 i0] d6)) /\
     ∀ n9 : Int, ∀ b1 : Int, ∀ a9, g1 [.int .i64 n9, .int .i64 b1] a9 ->
     let s2 := fun (V : Int) (y1 : Bool) (x9 : Int) (o5 : Heap) =>
      (∃ b6 : List Value -> Heap -> Prop,
      ( cnd (x != (0 : Int))
        (b6 [.int .i64 (IntKind.i64.wrap (x9 - n9))] o5)
        (b6 [.int .i64 0] o5)) /\
      ∀ g3 : Int, ∀ b4, b6 [.int .i64 g3] b4 ->
      let s0 := fun (w8 : Heap) =>
       (R (.tuple #[.int .u64 x, .int .i64 g3, .bool e, .bool D, .bool G, .int .i64 V, .bool true]) w8)
      cnd y1
       (0 <= V /\ V <= ((s.size : Nat) : Int) /\ callX Tryz.prog 319 #[.string (s.extract 0 (Int.toNat V))] b4 [] fun v8 k9 =>
       ∃ p6 : Bool, v8 = .bool p6 /\
       cnd (!p6)
        (R (.tuple #[.int .u64 x, .int .i64 g3, .bool e, .bool D, .bool G, .int .i64 V, .bool false]) k9)
        (s0 k9))
       (s0 b4))
     cnd (decide (c < ((s.size : Nat) : Int)))
      (0 <= c /\ c < ((s.size : Nat) : Int) /\ ∃ p5 : UInt8, s[Int.toNat c]? = some p5 /\ callX Tryz.prog 299 #[.int .u8 ((UInt8.toNat p5 : Nat) : Int)] a9 [] fun x1 S =>
      ∃ n4 : Int, x1 = .int .u8 n4 /\
      ∃ c5 : List Value -> Heap -> Prop,
      ( cnd (n4 == q2)
        (cnd (decide ((IntKind.i64.wrap (c + (1 : Int))) >= ((s.size : Nat) : Int)))
         (R (.tuple #[.int .u64 x, .int .i64 0, .bool e, .bool D, .bool G, .int .i64 (IntKind.i64.wrap (c + (1 : Int))), .bool false]) S)
         (0 <= (IntKind.i64.wrap (c + (1 : Int))) /\ (IntKind.i64.wrap (c + (1 : Int))) < ((s.size : Nat) : Int) /\ ∃ i8 : UInt8, s[Int.toNat (IntKind.i64.wrap (c + (1 : Int)))]? = some i8 /\ ∃ h7 : List Value -> Heap -> Prop,
         ( cnd (((UInt8.toNat i8 : Nat) : Int) == (43 : Int))
          (h7 [.int .i64 (IntKind.i64.wrap ((IntKind.i64.wrap (c + (1 : Int))) + (1 : Int))), .int .i64 1] S)
          (∃ g9 : List Value -> Heap -> Prop,
          ( cnd (((UInt8.toNat i8 : Nat) : Int) == (45 : Int))
            (g9 [.int .i64 (IntKind.i64.wrap ((IntKind.i64.wrap (c + (1 : Int))) + (1 : Int))), .int .i64 (-1)] S)
            (g9 [.int .i64 (IntKind.i64.wrap (c + (1 : Int))), .int .i64 1] S)) /\
          ∀ o2 : Int, ∀ j9 : Int, ∀ o1, g9 [.int .i64 o2, .int .i64 j9] o1 ->
          h7 [.int .i64 o2, .int .i64 j9] o1)) /\
         ∀ u : Int, ∀ u5 : Int, ∀ Z, h7 [.int .i64 u, .int .i64 u5] Z ->
         let q1 := fun (y4 : Heap) =>
          (R (.tuple #[.int .u64 x, .int .i64 0, .bool e, .bool D, .bool G, .int .i64 u, .bool false]) y4)
         cnd (decide (u >= ((s.size : Nat) : Int)))
          (q1 Z)
          (0 <= u /\ u < ((s.size : Nat) : Int) /\ ∃ p3 : UInt8, s[Int.toNat u]? = some p3 /\ cnd (decide (((UInt8.toNat p3 : Nat) : Int) < (48 : Int)))
           (q1 Z)
           (0 <= u /\ u < ((s.size : Nat) : Int) /\ ∃ l9 : UInt8, s[Int.toNat u]? = some l9 /\ cnd (decide (((UInt8.toNat l9 : Nat) : Int) > (57 : Int)))
            (R (.tuple #[.int .u64 x, .int .i64 0, .bool e, .bool D, .bool G, .int .i64 u, .bool false]) Z)
            (let k1 := fun (v6 : Int) (u6 : Bool) (x3 : Int) (u9 : Heap) =>
             (c5 [.int .i64 v6, .bool u6, .int .i64 (IntKind.i64.wrap (b1 + (IntKind.i64.wrap (x3 * u5))))] u9)
            ∃ (f1 : List Value -> Heap -> Prop) (j6 : List Value -> Heap -> Nat), f1 [.int .i64 u, .bool a8, .int .i64 0] Z /\
            ∀ b : Int, ∀ a1 : Bool, ∀ J : Int, ∀ N, f1 [.int .i64 b, .bool a1, .int .i64 J] N ->
            let p7 := fun (f0 : Heap) =>
             (∃ f3 : List Value -> Heap -> Prop,
             ( 0 <= b /\ b < ((s.size : Nat) : Int) /\ ∃ r1 : UInt8, s[Int.toNat b]? = some r1 /\ cnd (((UInt8.toNat r1 : Nat) : Int) == (95 : Int))
              (f3 [.bool true, .int .i64 J] f0)
              (∃ h2 : List Value -> Heap -> Prop,
              ( cnd (decide (J < (10000 : Int)))
                (0 <= b /\ b < ((s.size : Nat) : Int) /\ ∃ t7 : UInt8, s[Int.toNat b]? = some t7 /\ h2 [.int .i64 (IntKind.i64.wrap ((IntKind.i64.wrap ((IntKind.i64.wrap (J * (10 : Int))) + (IntKind.i64.wrap ((UInt8.toNat t7 : Nat) : Int)))) - (48 : Int)))] f0)
                (h2 [.int .i64 J] f0)) /\
              ∀ q5 : Int, ∀ m4, h2 [.int .i64 q5] m4 ->
              f3 [.bool a1, .int .i64 q5] m4)) /\
             ∀ b5 : Bool, ∀ c3 : Int, ∀ g0, f3 [.bool b5, .int .i64 c3] g0 ->
             f1 [.int .i64 (IntKind.i64.wrap (b + (1 : Int))), .bool b5, .int .i64 c3] g0 /\ j6 [.int .i64 (IntKind.i64.wrap (b + (1 : Int))), .bool b5, .int .i64 c3] g0 < j6 [.int .i64 b, .bool a1, .int .i64 J] N)
            let q7 := fun (w2 : Bool) (t1 : Heap) =>
             (cnd w2
              (p7 t1)
              (k1 b a1 J t1))
            cnd (decide (b < ((s.size : Nat) : Int)))
             (0 <= b /\ b < ((s.size : Nat) : Int) /\ ∃ k5 : UInt8, s[Int.toNat b]? = some k5 /\ cnd (decide ((48 : Int) <= ((UInt8.toNat k5 : Nat) : Int)))
              (0 <= b /\ b < ((s.size : Nat) : Int) /\ ∃ u2 : UInt8, s[Int.toNat b]? = some u2 /\ cnd (decide (((UInt8.toNat u2 : Nat) : Int) <= (57 : Int)))
               (p7 N)
               (0 <= b /\ b < ((s.size : Nat) : Int) /\ ∃ p0 : UInt8, s[Int.toNat b]? = some p0 /\ q7 (((UInt8.toNat p0 : Nat) : Int) == (95 : Int)) N))
              (0 <= b /\ b < ((s.size : Nat) : Int) /\ ∃ m6 : UInt8, s[Int.toNat b]? = some m6 /\ q7 (((UInt8.toNat m6 : Nat) : Int) == (95 : Int)) N))
             (k1 b a1 J N))))))
        (cnd (U == (16 : Int))
         (R (.tuple #[.int .u64 x, .int .i64 0, .bool e, .bool D, .bool G, .int .i64 c, .bool false]) S)
         (c5 [.int .i64 c, .bool a8, .int .i64 b1] S))) /\
      ∀ s1 : Int, ∀ p4 : Bool, ∀ j7 : Int, ∀ l1, c5 [.int .i64 s1, .bool p4, .int .i64 j7] l1 ->
      s2 s1 p4 j7 l1)
      (cnd (U == (16 : Int))
       (R (.tuple #[.int .u64 x, .int .i64 0, .bool e, .bool D, .bool G, .int .i64 c, .bool false]) a9)
       (s2 c a8 b1 a9))))
    (n0 b3))
   (n0 b3))
theorem calls365 {h : Heap} {R : Value -> Heap -> Prop} (s : ByteArray) (H : S365 s h R) : CallsH Tryz.prog 365 #[.string s] h R := by
 have e : S365 s h R = FX (envX [] 253) { loops := [(1, ⟨[0, 3, 4, 6, 8, 10, 11, 12], [2, 5, 7, 9, 13, 14, 15, 16, 17], [], []⟩), (5, ⟨[0, 2, 3, 4, 5, 6, 8, 16, 17, 19], [7, 9, 20], [], []⟩)], joins := [(28, ⟨[0, 2, 3, 5, 6, 8, 9], [4, 7], [], []⟩), (32, ⟨[0, 2, 3, 5, 6, 8, 9], [4, 7], [], []⟩), (54, ⟨[0, 2, 3, 4, 5, 8, 9], [6, 7, 10, 11, 12], [], []⟩), (96, ⟨[0, 3, 4, 6, 7, 8, 9, 10, 11, 12, 13, 14, 15, 17], [2, 5, 16], [], []⟩), (108, ⟨[0, 2, 3, 4, 6, 7, 8, 9, 10, 11, 12, 13, 14, 15, 16, 17], [5], [], []⟩), (127, ⟨[0, 3, 4, 6, 7, 8, 9, 10, 11, 12, 13, 14, 15, 17], [2, 5, 16], [], []⟩), (142, ⟨[0, 2, 3, 4, 5, 6, 7, 8, 9, 10, 12, 16], [17], [], []⟩), (145, ⟨[0, 2, 3, 4, 5, 6, 7, 8, 9, 10, 12], [16, 17], [], []⟩), (161, ⟨[0, 2, 3, 4, 5, 6, 8, 16], [7, 9, 17], [], []⟩), (171, ⟨[0, 2, 3, 4, 5, 6, 8, 9, 16, 17], [7, 19], [], []⟩), (175, ⟨[0, 2, 3, 4, 5, 6, 8, 9, 16, 17], [7, 19], [], []⟩), (224, ⟨[0, 2, 3, 4, 5, 6, 7, 8, 9, 16, 17, 19], [20], [], []⟩), (241, ⟨[0, 2, 4, 5, 6, 7, 8, 9], [3], [], []⟩)], blocks := [(1, ⟨[0, 3, 4, 6, 8, 10, 12], [2, 5, 7, 9, 13, 14, 15, 16, 17], [], []⟩), (2, ⟨[0, 3, 4, 6, 7, 8, 10, 11, 12], [2, 5, 9, 13, 14, 15, 16, 17], [], []⟩), (6, ⟨[0, 2, 3, 4, 5, 6, 7, 8, 16, 17, 19], [9, 20], [], []⟩)], draws := [] } Tryz.f365 (Tryz.f365.body.getD .skip) [.string s] h R := by kernel_rfl
 exact calls_of_FX (envX_ok _ _) Tryz.func365 (by kernel_rfl) (by kernel_rfl) (by kernel_rfl) (e ▸ H)
def Ok365 (s : ByteArray) (R : Int -> Int -> Bool -> Bool -> Bool -> Int -> Bool -> Prop) : Prop :=
 ∀ (h : Heap), Hp h [] -> CallsH Tryz.prog 365 #[.string s] h fun v h' => ∃ (raV : Int) (rbV : Int) (rcV : Bool) (rdV : Bool) (reV : Bool) (rfV : Int) (rgV : Bool), Sy h [] h' [] /\ v = .tuple #[.int .u64 raV, .int .i64 rbV, .bool rcV, .bool rdV, .bool reV, .int .i64 rfV, .bool rgV] /\ R raV rbV rcV rdV reV rfV rgV
def S374 (mantissa : Int) (exp : Int) (neg : Bool) (h : Heap) (R : Value -> Heap -> Prop) : Prop :=
 ∃ m : Int, hcell h 13 0 = some (.int .u64 m) /\ 0 <= m /\ cnd ((Int.fdiv mantissa (2 ^ (min (Int.toNat m) 64))) != (0 : Int))
  (R (.tuple #[.float .f64 0, .bool false]) h)
  (∃ n : List Value -> Heap -> Prop,
  ( cnd neg
    (n [.float .f64 (Op.negFloat .f64 ((FloatKind.f64).nearest mantissa))] h)
    (n [.float .f64 ((FloatKind.f64).nearest mantissa)] h)) /\
  ∀ c : Nat, ∀ a, n [.float .f64 c] a ->
  let f := fun (G : Heap) =>
   (R (.tuple #[.float .f64 c, .bool false]) G)
  cnd (exp == (0 : Int))
   (R (.tuple #[.float .f64 c, .bool true]) a)
   (cnd (decide (exp > (0 : Int)))
    (cnd (decide (exp <= (37 : Int)))
     (∃ l : List Value -> Heap -> Prop,
     ( cnd (decide (exp > (22 : Int)))
       (∃ (v : Option Addr) (t D : Nat), hcell a 16 0 = some (.slice v t D) /\ ∃ b o, v = some ⟨b, o, none⟩ /\ 0 <= (IntKind.i64.wrap (exp - (22 : Int))) /\ (IntKind.i64.wrap (exp - (22 : Int))) < (t : Nat) /\ ∃ j : Nat, hcell a b (o + (Int.toNat (IntKind.i64.wrap (exp - (22 : Int)))) * 1) = some (.float .f64 j) /\ ∀ q, FRes .f64 c j ((FloatKind.f64).format.mul c j) q -> l [.int .i64 22, .float .f64 q] a)
       (l [.int .i64 exp, .float .f64 c] a)) /\
     ∀ g : Int, ∀ d : Nat, ∀ e, l [.int .i64 g, .float .f64 d] e ->
     cnd ((FloatKind.f64).format.order d 4831355200913801216 == some .gt)
      (R (.tuple #[.float .f64 d, .bool false]) e)
      (cnd ((FloatKind.f64).format.order d 14054727237768577024 == some .lt)
       (R (.tuple #[.float .f64 d, .bool false]) e)
       (∃ (w : Option Addr) (A E : Nat), hcell e 16 0 = some (.slice w A E) /\ ∃ b2 o2, w = some ⟨b2, o2, none⟩ /\ 0 <= g /\ g < (A : Nat) /\ ∃ p : Nat, hcell e b2 (o2 + (Int.toNat g) * 1) = some (.float .f64 p) /\ ∀ y, FRes .f64 d p ((FloatKind.f64).format.mul d p) y -> R (.tuple #[.float .f64 y, .bool true]) e)))
     (cnd (decide (exp < (0 : Int)))
      (cnd (decide (exp >= ((-22) : Int)))
       (∃ (z : Option Addr) (u F : Nat), hcell a 16 0 = some (.slice z u F) /\ ∃ b3 o3, z = some ⟨b3, o3, none⟩ /\ 0 <= (IntKind.i64.wrap (0 - exp)) /\ (IntKind.i64.wrap (0 - exp)) < (u : Nat) /\ ∃ k : Nat, hcell a b3 (o3 + (Int.toNat (IntKind.i64.wrap (0 - exp))) * 1) = some (.float .f64 k) /\ ∀ x, FRes .f64 c k ((FloatKind.f64).format.div c k) x -> R (.tuple #[.float .f64 x, .bool true]) a)
       (f a))
      (f a)))
    (cnd (decide (exp < (0 : Int)))
     (cnd (decide (exp >= ((-22) : Int)))
      (∃ (r : Option Addr) (B C : Nat), hcell a 16 0 = some (.slice r B C) /\ ∃ b4 o4, r = some ⟨b4, o4, none⟩ /\ 0 <= (IntKind.i64.wrap (0 - exp)) /\ (IntKind.i64.wrap (0 - exp)) < (B : Nat) /\ ∃ i : Nat, hcell a b4 (o4 + (Int.toNat (IntKind.i64.wrap (0 - exp))) * 1) = some (.float .f64 i) /\ ∀ s, FRes .f64 c i ((FloatKind.f64).format.div c i) s -> R (.tuple #[.float .f64 s, .bool true]) a)
      (f a))
     (f a))))
theorem calls374 {h : Heap} {R : Value -> Heap -> Prop} (mantissa : Int) (exp : Int) (neg : Bool) (H : S374 mantissa exp neg h R) : CallsH Tryz.prog 374 #[.int .u64 mantissa, .int .i64 exp, .bool neg] h R := by
 have e : S374 mantissa exp neg h R = FX (envX [] 64) { loops := [], joins := [(15, ⟨[1, 7], [6], [], []⟩), (30, ⟨[7], [1, 6], [], []⟩)], blocks := [], draws := [] } Tryz.f374 (Tryz.f374.body.getD .skip) [.int .u64 mantissa, .int .i64 exp, .bool neg] h R := by kernel_rfl
 exact calls_of_FX (envX_ok _ _) Tryz.func374 (by kernel_rfl) (by kernel_rfl) (by kernel_rfl) (e ▸ H)
def Ok374 (mantissa : Int) (exp : Int) (neg : Bool) (R : Nat -> Bool -> Prop) : Prop :=
 ∀ (h : Heap) (gl : GL), Hp h [Ck.glob gl] -> CallsH Tryz.prog 374 #[.int .u64 mantissa, .int .i64 exp, .bool neg] h fun v h' => ∃ (raV : Nat) (rbV : Bool), Sy h [] h' [] /\ v = .tuple #[.float .f64 raV, .bool rbV] /\ R raV rbV
def T374 (mantissa : Int) (exp : Int) (neg : Bool) (R : Nat -> Bool -> Prop) : Prop :=
 0 <= (52 : Int) /\ cnd ((Int.fdiv mantissa (2 ^ (min (Int.toNat (52 : Int)) 64))) != (0 : Int))
  (R 0 false)
  (∃ g : Nat -> Prop,
  ( cnd neg
    (g (Op.negFloat .f64 ((FloatKind.f64).nearest mantissa)))
    (g ((FloatKind.f64).nearest mantissa))) /\
  ∀ a : Nat, g a ->
  ∃ c : Prop,
  ( cnd (exp == (0 : Int))
    (R a true)
    (cnd (decide (exp > (0 : Int)))
     (cnd (decide (exp <= (37 : Int)))
      (∃ j : Int -> Nat -> Prop,
      ( cnd (decide (exp > (22 : Int)))
       (0 <= (IntKind.i64.wrap (exp - (22 : Int))) /\ (IntKind.i64.wrap (exp - (22 : Int))) < ((23 : Nat) : Int) /\ ∃ f : Nat, tF[(Int.toNat (IntKind.i64.wrap (exp - (22 : Int)))) * 1]? = some f /\ ∀ k : Nat, FRes .f64 a f ((FloatKind.f64).format.mul a f) k -> j 22 k)
       (j exp a)) /\
      ∀ d : Int, ∀ b : Nat, j d b ->
      cnd ((FloatKind.f64).format.order b 4831355200913801216 == some .gt)
       (R b false)
       (cnd ((FloatKind.f64).format.order b 14054727237768577024 == some .lt)
        (R b false)
        (0 <= d /\ d < ((23 : Nat) : Int) /\ ∃ i : Nat, tF[(Int.toNat d) * 1]? = some i /\ ∀ m : Nat, FRes .f64 b i ((FloatKind.f64).format.mul b i) m -> R m true)))
      (cnd (decide (exp < (0 : Int)))
       (cnd (decide (exp >= ((-22) : Int)))
        (0 <= (IntKind.i64.wrap (0 - exp)) /\ (IntKind.i64.wrap (0 - exp)) < ((23 : Nat) : Int) /\ ∃ h : Nat, tF[(Int.toNat (IntKind.i64.wrap (0 - exp))) * 1]? = some h /\ ∀ l : Nat, FRes .f64 a h ((FloatKind.f64).format.div a h) l -> R l true)
        (c))
       (c)))
     (cnd (decide (exp < (0 : Int)))
      (cnd (decide (exp >= ((-22) : Int)))
       (0 <= (IntKind.i64.wrap (0 - exp)) /\ (IntKind.i64.wrap (0 - exp)) < ((23 : Nat) : Int) /\ ∃ e : Nat, tF[(Int.toNat (IntKind.i64.wrap (0 - exp))) * 1]? = some e /\ ∀ n : Nat, FRes .f64 a e ((FloatKind.f64).format.div a e) n -> R n true)
       (c))
      (c)))) /\
  (c ->
  R a false))
theorem ok374 {mantissa exp neg} {R : Nat -> Bool -> Prop} (T : T374 mantissa exp neg R) : Ok374 mantissa exp neg R := by
 intro h gl H
 have Y : Sy h [] h _ := Sy.startM H rfl
 apply calls374
 unfold S374
 unfold T374 at T
 refine ⟨_, (Y.glo 0 rfl).i0, ?_⟩
 obtain ⟨q_9, T⟩ := T
 refine ⟨q_9, ?_⟩
 refine cnd_imp T (fun T => ?_) (fun T => ?_)
 ·exact ⟨_, _, Y.pick [] rfl, rfl, T⟩
 ·obtain ⟨Jv, T0, T1⟩ := T
  obtain ⟨B, hB, _⟩ := Y.cut [] [0] rfl
  refine ⟨fun lz h' => ∃ (f : Nat), lz = [.float .f64 f] /\ Sy h [] h' ([] ++ B) /\ Jv f, ?_, ?_⟩
  ·subst hB
   replace T := T0
   clear T0 T1
   refine cnd_imp T (fun T => ?_) (fun T => ?_)
   ·exact ⟨_, rfl, Y.pick [0] rfl, T⟩
   ·exact ⟨_, rfl, Y.pick [0] rfl, T⟩
  ·subst hB
   clear T0 Y
   rintro f hv ⟨f, e, Y, T⟩
   cases e
   replace T := T1 f T
   have Y : Sy _ _ _ [_] := Y
   obtain ⟨Jv_2, T0, T1⟩ := T
   obtain ⟨B_2, hB_2, _⟩ := Y.cut [] [0] rfl
   intro K
   have hK : ∀  (hv3 : Heap), (Sy h [] hv3 ([] ++ B_2) /\ Jv_2) -> K hv3 := by
    subst hB_2
    clear T0 Y
    rintro hv3 ⟨Y, T⟩
    replace T := T1 T
    have Y : Sy _ _ _ [_] := Y
    unfold K
    exact ⟨_, _, Y.pick [] rfl, rfl, T⟩
   subst hB_2
   replace T := T0
   clear T0 T1
   refine cnd_imp T (fun T => ?_) (fun T => ?_)
   ·exact ⟨_, _, Y.pick [] rfl, rfl, T⟩
   ·refine cnd_imp T (fun T => ?_) (fun T => ?_)
    ·refine cnd_imp T (fun T => ?_) (fun T => ?_)
     ·obtain ⟨Jv2, T0, T1⟩ := T
      obtain ⟨B_3, hB_3, _⟩ := Y.cut [] [0] rfl
      refine ⟨fun lz h' => ∃ (exp2 : Int) (f2 : Nat), lz = [.int .i64 exp2, .float .f64 f2] /\ Sy h [] h' ([] ++ B_3) /\ Jv2 exp2 f2, ?_, ?_⟩
      ·subst hB_3
       replace T := T0
       clear T0 T1
       refine cnd_imp T (fun T => ?_) (fun T => ?_)
       ·refine ⟨_, _, _, (Y.glo 0 rfl).f0, ?_⟩
        obtain ⟨q, q_2, T⟩ := T
        refine ⟨_, _, rfl, q, q_2, ?_⟩
        obtain ⟨x_2, hx, T⟩ := T
        refine ⟨_, (Y.glo 0 rfl).f _ _ hx, ?_⟩
        intro r hq
        replace T := T r hq
        exact ⟨_, _, rfl, Y.pick [0] rfl, T⟩
       ·exact ⟨_, _, rfl, Y.pick [0] rfl, T⟩
      ·subst hB_3
       clear T0 Y
       rintro exp2 f2 hv2 ⟨exp2, f2, e, Y, T⟩
       cases e
       replace T := T1 exp2 f2 T
       have Y : Sy _ _ _ [_] := Y
       refine cnd_imp T (fun T => ?_) (fun T => ?_)
       ·exact ⟨_, _, Y.pick [] rfl, rfl, T⟩
       ·refine cnd_imp T (fun T => ?_) (fun T => ?_)
        ·exact ⟨_, _, Y.pick [] rfl, rfl, T⟩
        ·refine ⟨_, _, _, (Y.glo 0 rfl).f0, ?_⟩
         obtain ⟨q_3, q_4, T⟩ := T
         refine ⟨_, _, rfl, q_3, q_4, ?_⟩
         obtain ⟨x_3, hx_2, T⟩ := T
         refine ⟨_, (Y.glo 0 rfl).f _ _ hx_2, ?_⟩
         intro r2 hq
         replace T := T r2 hq
         exact ⟨_, _, Y.pick [] rfl, rfl, T⟩
     ·refine cnd_imp T (fun T => ?_) (fun T => ?_)
      ·refine cnd_imp T (fun T => ?_) (fun T => ?_)
       ·refine ⟨_, _, _, (Y.glo 0 rfl).f0, ?_⟩
        obtain ⟨q_5, q_6, T⟩ := T
        refine ⟨_, _, rfl, q_5, q_6, ?_⟩
        obtain ⟨x_4, hx_3, T⟩ := T
        refine ⟨_, (Y.glo 0 rfl).f _ _ hx_3, ?_⟩
        intro r3 hq
        replace T := T r3 hq
        exact ⟨_, _, Y.pick [] rfl, rfl, T⟩
       ·exact hK _ ⟨Y.pick [0] rfl, T⟩
      ·exact hK _ ⟨Y.pick [0] rfl, T⟩
    ·refine cnd_imp T (fun T => ?_) (fun T => ?_)
     ·refine cnd_imp T (fun T => ?_) (fun T => ?_)
      ·refine ⟨_, _, _, (Y.glo 0 rfl).f0, ?_⟩
       obtain ⟨q_7, q_8, T⟩ := T
       refine ⟨_, _, rfl, q_7, q_8, ?_⟩
       obtain ⟨x_5, hx_4, T⟩ := T
       refine ⟨_, (Y.glo 0 rfl).f _ _ hx_4, ?_⟩
       intro r4 hq
       replace T := T r4 hq
       exact ⟨_, _, Y.pick [] rfl, rfl, T⟩
      ·exact hK _ ⟨Y.pick [0] rfl, T⟩
     ·exact hK _ ⟨Y.pick [0] rfl, T⟩
def Ok375 (d : Int) (p : Int) (sign : Int) (R : Nat -> Option Int -> Prop) : Prop :=
 ∀ (h : Heap) (gl : GL), Hp h [Ck.glob gl] -> CallsH Tryz.prog 375 #[.int .u64 d, .int .i64 p, .int .u64 sign] h fun v h' => ∃ (raV : Nat) (rbE : Option Int), Sy h [] h' [] /\ v = .tuple #[.float .f64 raV, (errV 297 rbE)] /\ R raV rbE
def S355 (s : ByteArray) (h : Heap) (R : Value -> Heap -> Prop) : Prop :=
 callX Tryz.prog 364 #[.string s] h [] fun T N =>
 ∃ y : Nat, ∃ E : Int, ∃ A : Bool, T = .tuple #[.float .f64 y, .int .i64 E, .bool A] /\
 cnd A
  (R (.tuple #[.float .f64 y, .int .i64 E, .nilIface]) N)
  (callX Tryz.prog 365 #[.string s] N [] fun a2 i =>
  ∃ e : Int, ∃ d : Int, ∃ n : Bool, ∃ k : Bool, ∃ z : Bool, ∃ a : Int, ∃ w : Bool, a2 = .tuple #[.int .u64 e, .int .i64 d, .bool n, .bool k, .bool z, .int .i64 a, .bool w] /\
  cnd (!w)
   (R (.tuple #[.float .f64 0, .int .i64 a, .iface 297 (.int .i64 2)]) i)
   (cnd z
    (False)
    (let o := fun (a3 : Heap) =>
     (False)
    ∃ x : Bool, hcell i 3 0 = some (.bool x) /\ cnd x
     (callX Tryz.prog 337 #[.bool n] i [] fun Q f =>
     ∃ c : Int, Q = .int .u64 c /\
     0 <= (63 : Int) /\ cnd (e == (0 : Int))
      (callE Tryz.prog 373 #[.int .u64 (bits .or .u64 (IntKind.u64.wrap (c * 2 ^ (min (Int.toNat (63 : Int)) 64))) (0 : Int))] fun S =>
      ∃ K : Nat, S = .float .f64 K /\
      R (.tuple #[.float .f64 K, .int .i64 a, .nilIface]) f)
      (cnd (decide (d > (310 : Int)))
       (callE Tryz.prog 373 #[.int .u64 (bits .or .u64 (IntKind.u64.wrap (c * 2 ^ (min (Int.toNat (63 : Int)) 64))) (9218868437227405312 : Int))] fun O =>
       ∃ I : Nat, O = .float .f64 I /\
       R (.tuple #[.float .f64 I, .int .i64 a, .iface 297 (.int .i64 1)]) f)
       (cnd (decide (d < ((-345) : Int)))
        (callE Tryz.prog 373 #[.int .u64 (bits .or .u64 (IntKind.u64.wrap (c * 2 ^ (min (Int.toNat (63 : Int)) 64))) (0 : Int))] fun P =>
        ∃ v : Nat, P = .float .f64 v /\
        R (.tuple #[.float .f64 v, .int .i64 a, .nilIface]) f)
        (let u := fun (a0 : Heap) =>
         (callX Tryz.prog 375 #[.int .u64 e, .int .i64 d, .int .u64 (IntKind.u64.wrap (c * 2 ^ (min (Int.toNat (63 : Int)) 64)))] a0 [] fun M l =>
         ∃ b : Nat, ((M = .tuple #[.float .f64 b, .nilIface] /\
          cnd (!k)
           (R (.tuple #[.float .f64 b, .int .i64 a, .nilIface]) l)
           (let C := fun (W : Nat) (r : Heap) =>
            (cnd ((FloatKind.f64).format.order b W == some .eq)
             (R (.tuple #[.float .f64 b, .int .i64 a, .nilIface]) r)
             (o r))
           callX Tryz.prog 375 #[.int .u64 (IntKind.u64.wrap (e + (1 : Int))), .int .i64 d, .int .u64 (IntKind.u64.wrap (c * 2 ^ (min (Int.toNat (63 : Int)) 64)))] l [] fun G J =>
           ∃ g : Nat, ((G = .tuple #[.float .f64 g, .nilIface] /\
            C g J)
           \/ ∃ (V : Nat) (a1 : Value), G = .tuple #[.float .f64 g, .iface V a1] /\
            C g J)))
         \/ ∃ (m : Nat) (p : Value), M = .tuple #[.float .f64 b, .iface m p] /\
          cnd (!k)
           (R (.tuple #[.float .f64 b, .int .i64 a, .iface m p]) l)
           (let F := fun (U : Nat) (t : Heap) =>
            (cnd ((FloatKind.f64).format.order b U == some .eq)
             (R (.tuple #[.float .f64 b, .int .i64 a, .iface m p]) t)
             (o t))
           callX Tryz.prog 375 #[.int .u64 (IntKind.u64.wrap (e + (1 : Int))), .int .i64 d, .int .u64 (IntKind.u64.wrap (c * 2 ^ (min (Int.toNat (63 : Int)) 64)))] l [] fun D H =>
           ∃ j : Nat, ((D = .tuple #[.float .f64 j, .nilIface] /\
            F j H)
           \/ ∃ (X : Nat) (Y : Value), D = .tuple #[.float .f64 j, .iface X Y] /\
            F j H))))
        cnd (!k)
         (callX Tryz.prog 374 #[.int .u64 e, .int .i64 d, .bool n] f [] fun Z L =>
         ∃ B : Nat, ∃ q : Bool, Z = .tuple #[.float .f64 B, .bool q] /\
         cnd q
          (R (.tuple #[.float .f64 B, .int .i64 a, .nilIface]) L)
          (u L))
         (u f)))))
     (o i))))
theorem calls355 {h : Heap} {R : Value -> Heap -> Prop} (s : ByteArray) (H : S355 s h R) : CallsH Tryz.prog 355 #[.string s] h R := by
 have e : S355 s h R = FX (envX [] 143) { loops := [], joins := [], blocks := [], draws := [], cut := [8, 28] } Tryz.f355 (Tryz.f355.body.getD .skip) [.string s] h R := by kernel_rfl
 exact calls_of_FX (envX_ok _ _) Tryz.func355 (by kernel_rfl) (by kernel_rfl) (by kernel_rfl) (e ▸ H)
def Ok355 (s : ByteArray) (R : Nat -> Int -> Option Int -> Prop) : Prop :=
 ∀ (h : Heap) (gl : GL), Hp h [Ck.glob gl] -> CallsH Tryz.prog 355 #[.string s] h fun v h' => ∃ (raV : Nat) (rbV : Int) (rcE : Option Int), Sy h [] h' [] /\ v = .tuple #[.float .f64 raV, .int .i64 rbV, (errV 297 rcE)] /\ R raV rbV rcE
def T355 (s : ByteArray) (R : Nat -> Int -> Option Int -> Prop) : Prop :=
 Ok364 s (fun H C A =>
 cnd A
  (R H C none)
  (Ok365 s (fun e d w k y a F =>
  cnd (!F)
   (R 0 a (some 2))
   (cnd y
    (False)
    (∃ f : Prop,
    ( cnd true
      (Ok337 w (fun b =>
      0 <= (63 : Int) /\ cnd (e == (0 : Int))
       (callE Tryz.prog 373 #[.int .u64 (bits .or .u64 (IntKind.u64.wrap (b * 2 ^ (min (Int.toNat (63 : Int)) 64))) (0 : Int))] fun E =>
       ∃ r : Nat, E = .float .f64 r /\
       R r a none)
       (cnd (decide (d > (310 : Int)))
        (callE Tryz.prog 373 #[.int .u64 (bits .or .u64 (IntKind.u64.wrap (b * 2 ^ (min (Int.toNat (63 : Int)) 64))) (9218868437227405312 : Int))] fun x =>
        ∃ o : Nat, x = .float .f64 o /\
        R o a (some 1))
        (cnd (decide (d < ((-345) : Int)))
         (callE Tryz.prog 373 #[.int .u64 (bits .or .u64 (IntKind.u64.wrap (b * 2 ^ (min (Int.toNat (63 : Int)) 64))) (0 : Int))] fun D =>
         ∃ m : Nat, D = .float .f64 m /\
         R m a none)
         (∃ h : Prop,
         ( cnd (!k)
          (Ok374 e d w (fun B z =>
          cnd z
           (R B a none)
           (h)))
          (h)) /\
         (h ->
         Ok375 e d (IntKind.u64.wrap (b * 2 ^ (min (Int.toNat (63 : Int)) 64))) (fun c v =>
         (v = none ->
          cnd (!k)
           (R c a none)
           (∃ j : Nat -> Prop,
           ( Ok375 (IntKind.u64.wrap (e + (1 : Int))) d (IntKind.u64.wrap (b * 2 ^ (min (Int.toNat (63 : Int)) 64))) (fun l q =>
           (q = none ->
            j l) /\
           ∀ I : Int, q = some I ->
           j l)) /\
           ∀ u : Nat, j u ->
           cnd ((FloatKind.f64).format.order c u == some .eq)
            (R c a none)
            (f))) /\
         ∀ g : Int, v = some g ->
         cnd (!k)
          (R c a (some g))
          (∃ i : Nat -> Prop,
          ( Ok375 (IntKind.u64.wrap (e + (1 : Int))) d (IntKind.u64.wrap (b * 2 ^ (min (Int.toNat (63 : Int)) 64))) (fun n t =>
          (t = none ->
           i n) /\
          ∀ G : Int, t = some G ->
          i n)) /\
          ∀ p : Nat, i p ->
          cnd ((FloatKind.f64).format.order c p == some .eq)
           (R c a (some g))
           (f)))))))))
      (f)) /\
    (f ->
    False))))))
theorem ok355 {s} {R : Nat -> Int -> Option Int -> Prop} (T : T355 s R) : Ok355 s R := by
 intro h gl H
 have Y : Sy h [] h _ := Sy.startM H rfl
 apply calls355
 unfold S355
 unfold T355 at T
 refine callX_sy (T _ (Hp.nil _)) (fun _ _ ⟨_, _, _, p, _⟩ => p.fr) alln ?_
 rintro v hv ⟨ra, rb, rc, PP, rfl, T⟩
 have Y : Sy _ _ hv [_] := Y.gr PP.fr
 clear PP
 refine ⟨ra, rb, rc, rfl, ?_⟩
 refine cnd_imp T (fun T => ?_) (fun T => ?_)
 ·exact ⟨_, _, none, Y.pick [] rfl, rfl, T⟩
 ·refine callX_sy (T _ (Hp.nil _)) (fun _ _ ⟨_, _, _, _, _, _, _, p, _⟩ => p.fr) alln ?_
  rintro v2 hv2 ⟨ra2, rb2, rc2, rd, re, rf, rg, PP, rfl, T⟩
  have Y : Sy _ _ hv2 [_] := Y.gr PP.fr
  clear PP
  refine ⟨ra2, rb2, rc2, rd, re, rf, rg, rfl, ?_⟩
  refine cnd_imp T (fun T => ?_) (fun T => ?_)
  ·exact ⟨_, _, (some 2), Y.pick [] rfl, rfl, T⟩
  ·refine cnd_imp T (fun T => ?_) (fun T => ?_)
   ·exact T.elim
   ·obtain ⟨Jv, T0, T1⟩ := T
    obtain ⟨B, hB, _⟩ := Y.cut [] [0] rfl
    intro K4
    have hK4 : ∀  (hv11 : Heap), (Sy h [] hv11 ([] ++ B) /\ Jv) -> K4 hv11 := by
     subst hB
     clear T0 Y
     rintro hv11 ⟨Y, T⟩
     replace T := T1 T
     have Y : Sy _ _ _ [_] := Y
     unfold K4
     exact T.elim
    subst hB
    replace T := T0
    clear T0 T1
    refine ⟨_, (Y.glo 0 rfl).opt, ?_⟩
    refine cnd_imp T (fun T => ?_) (fun T => ?_)
    ·refine callX_sy (T _ (Hp.nil _)) (fun _ _ ⟨_, p, _⟩ => p.fr) alln ?_
     rintro v3 hv3 ⟨r, PP, rfl, T⟩
     have Y : Sy _ _ hv3 [_] := Y.gr PP.fr
     clear PP
     refine ⟨r, rfl, ?_⟩
     obtain ⟨q, T⟩ := T
     refine ⟨q, ?_⟩
     refine cnd_imp T (fun T => ?_) (fun T => ?_)
     ·obtain ⟨Rx, hx, T⟩ := T
      refine ⟨Rx, hx, fun v4 hv => ?_⟩
      obtain ⟨r2, rfl, T⟩ := T v4 hv
      refine ⟨r2, rfl, ?_⟩
      exact ⟨_, _, none, Y.pick [] rfl, rfl, T⟩
     ·refine cnd_imp T (fun T => ?_) (fun T => ?_)
      ·obtain ⟨Rx_2, hx_2, T⟩ := T
       refine ⟨Rx_2, hx_2, fun v5 hv => ?_⟩
       obtain ⟨r3, rfl, T⟩ := T v5 hv
       refine ⟨r3, rfl, ?_⟩
       exact ⟨_, _, (some 1), Y.pick [] rfl, rfl, T⟩
      ·refine cnd_imp T (fun T => ?_) (fun T => ?_)
       ·obtain ⟨Rx_3, hx_3, T⟩ := T
        refine ⟨Rx_3, hx_3, fun v6 hv => ?_⟩
        obtain ⟨r4, rfl, T⟩ := T v6 hv
        refine ⟨r4, rfl, ?_⟩
        exact ⟨_, _, none, Y.pick [] rfl, rfl, T⟩
       ·obtain ⟨Jv_2, T0, T1⟩ := T
        obtain ⟨B_2, hB_2, _⟩ := Y.cut [] [0] rfl
        intro K
        have hK : ∀  (hv5 : Heap), (Sy h [] hv5 ([] ++ B_2) /\ Jv_2) -> K hv5 := by
         subst hB_2
         clear T0 Y
         rintro hv5 ⟨Y, T⟩
         replace T := T1 T
         have Y : Sy _ _ _ [_] := Y
         unfold K
         refine callX_sy (T _ _ (Y.pick [0] rfl).hp) (fun _ _ ⟨_, _, p, _⟩ => p.fr) alln ?_
         rintro v8 hv6 ⟨ra4, rbE, PP, rfl, T⟩
         have Y : Sy _ _ hv6 [_] := Y.gr PP.fr
         clear PP
         cases rbE
         ·replace T := T.1 rfl
          refine ⟨ra4, .inl ⟨rfl, ?_⟩⟩
          refine cnd_imp T (fun T => ?_) (fun T => ?_)
          ·exact ⟨_, _, none, Y.pick [] rfl, rfl, T⟩
          ·obtain ⟨Jv_3, T0, T1⟩ := T
           obtain ⟨B_3, hB_3, _⟩ := Y.cut [] [0] rfl
           intro K2
           have hK2 : ∀ (f1 : Nat) (hv8 : Heap), (Sy h [] hv8 ([] ++ B_3) /\ Jv_3 f1) -> K2 f1 hv8 := by
            subst hB_3
            clear T0 Y
            rintro f1 hv8 ⟨Y, T⟩
            replace T := T1 f1 T
            have Y : Sy _ _ _ [_] := Y
            unfold K2
            refine cnd_imp T (fun T => ?_) (fun T => ?_)
            ·exact ⟨_, _, none, Y.pick [] rfl, rfl, T⟩
            ·exact hK4 _ ⟨Y.pick [0] rfl, T⟩
           subst hB_3
           replace T := T0
           clear T0 T1
           refine callX_sy (T _ _ (Y.pick [0] rfl).hp) (fun _ _ ⟨_, _, p, _⟩ => p.fr) alln ?_
           rintro v9 hv7 ⟨ra5, rbE_2, PP, rfl, T⟩
           have Y : Sy _ _ hv7 [_] := Y.gr PP.fr
           clear PP
           cases rbE_2
           ·replace T := T.1 rfl
            refine ⟨ra5, .inl ⟨rfl, ?_⟩⟩
            exact hK2 _ _ ⟨Y.pick [0] rfl, T⟩
           ·rename_i c_2
            replace T := T.2 c_2 rfl
            refine ⟨ra5, .inr ⟨297, .int .i64 c_2, rfl, ?_⟩⟩
            exact hK2 _ _ ⟨Y.pick [0] rfl, T⟩
         ·rename_i c
          replace T := T.2 c rfl
          refine ⟨ra4, .inr ⟨297, .int .i64 c, rfl, ?_⟩⟩
          refine cnd_imp T (fun T => ?_) (fun T => ?_)
          ·exact ⟨_, _, (some c), Y.pick [] rfl, rfl, T⟩
          ·obtain ⟨Jv_4, T0, T1⟩ := T
           obtain ⟨B_4, hB_4, _⟩ := Y.cut [] [0] rfl
           intro K3
           have hK3 : ∀ (f1_2 : Nat) (hv10 : Heap), (Sy h [] hv10 ([] ++ B_4) /\ Jv_4 f1_2) -> K3 f1_2 hv10 := by
            subst hB_4
            clear T0 Y
            rintro f1_2 hv10 ⟨Y, T⟩
            replace T := T1 f1_2 T
            have Y : Sy _ _ _ [_] := Y
            unfold K3
            refine cnd_imp T (fun T => ?_) (fun T => ?_)
            ·exact ⟨_, _, (some c), Y.pick [] rfl, rfl, T⟩
            ·exact hK4 _ ⟨Y.pick [0] rfl, T⟩
           subst hB_4
           replace T := T0
           clear T0 T1
           refine callX_sy (T _ _ (Y.pick [0] rfl).hp) (fun _ _ ⟨_, _, p, _⟩ => p.fr) alln ?_
           rintro v10 hv9 ⟨ra6, rbE_3, PP, rfl, T⟩
           have Y : Sy _ _ hv9 [_] := Y.gr PP.fr
           clear PP
           cases rbE_3
           ·replace T := T.1 rfl
            refine ⟨ra6, .inl ⟨rfl, ?_⟩⟩
            exact hK3 _ _ ⟨Y.pick [0] rfl, T⟩
           ·rename_i c_3
            replace T := T.2 c_3 rfl
            refine ⟨ra6, .inr ⟨297, .int .i64 c_3, rfl, ?_⟩⟩
            exact hK3 _ _ ⟨Y.pick [0] rfl, T⟩
        subst hB_2
        replace T := T0
        clear T0 T1
        refine cnd_imp T (fun T => ?_) (fun T => ?_)
        ·refine callX_sy (T _ _ (Y.pick [0] rfl).hp) (fun _ _ ⟨_, _, p, _⟩ => p.fr) alln ?_
         rintro v7 hv4 ⟨ra3, rb3, PP, rfl, T⟩
         have Y : Sy _ _ hv4 [_] := Y.gr PP.fr
         clear PP
         refine ⟨ra3, rb3, rfl, ?_⟩
         refine cnd_imp T (fun T => ?_) (fun T => ?_)
         ·exact ⟨_, _, none, Y.pick [] rfl, rfl, T⟩
         ·exact hK _ ⟨Y.pick [0] rfl, T⟩
        ·exact hK _ ⟨Y.pick [0] rfl, T⟩
    ·exact hK4 _ ⟨Y.pick [0] rfl, T⟩
def S342 (s : ByteArray) (bitSize : Int) (h : Heap) (R : Value -> Heap -> Prop) : Prop :=
 cnd (bitSize == (32 : Int))
  (callX Tryz.prog 354 #[.string s] h [] fun d m =>
  ∃ f : Nat, ∃ g : Int, ((d = .tuple #[.float .f32 f, .int .i64 g, .nilIface] /\
   False)
  \/ ∃ (k : Nat) (l : Value), d = .tuple #[.float .f32 f, .int .i64 g, .iface k l] /\
   False))
  (callX Tryz.prog 355 #[.string s] h [] fun i e =>
  ∃ a : Nat, ∃ b : Int, ((i = .tuple #[.float .f64 a, .int .i64 b, .nilIface] /\
   R (.tuple #[.float .f64 a, .int .i64 b, .nilIface]) e)
  \/ ∃ (j : Nat) (c : Value), i = .tuple #[.float .f64 a, .int .i64 b, .iface j c] /\
   R (.tuple #[.float .f64 a, .int .i64 b, .iface j c]) e))
theorem calls342 {h : Heap} {R : Value -> Heap -> Prop} (s : ByteArray) (bitSize : Int) (H : S342 s bitSize h R) : CallsH Tryz.prog 342 #[.string s, .int .i64 bitSize] h R := by
 have e : S342 s bitSize h R = FX (envX [] 27) { loops := [], joins := [], blocks := [], draws := [] } Tryz.f342 (Tryz.f342.body.getD .skip) [.string s, .int .i64 bitSize] h R := by kernel_rfl
 exact calls_of_FX (envX_ok _ _) Tryz.func342 (by kernel_rfl) (by kernel_rfl) (by kernel_rfl) (e ▸ H)
def Ok342 (s : ByteArray) (bitSize : Int) (R : Nat -> Int -> Option Int -> Prop) : Prop :=
 ∀ (h : Heap) (gl : GL), Hp h [Ck.glob gl] -> CallsH Tryz.prog 342 #[.string s, .int .i64 bitSize] h fun v h' => ∃ (raV : Nat) (rbV : Int) (rcE : Option Int), Sy h [] h' [] /\ v = .tuple #[.float .f64 raV, .int .i64 rbV, (errV 297 rcE)] /\ R raV rbV rcE
def T342 (s : ByteArray) (bitSize : Int) (R : Nat -> Int -> Option Int -> Prop) : Prop :=
 cnd (bitSize == (32 : Int))
  (False)
  (Ok355 s (fun a b d =>
  (d = none ->
   R a b none) /\
  ∀ c : Int, d = some c ->
  R a b (some c)))
theorem ok342 {s bitSize} {R : Nat -> Int -> Option Int -> Prop} (T : T342 s bitSize R) : Ok342 s bitSize R := by
 intro h gl H
 have Y : Sy h [] h _ := Sy.startM H rfl
 apply calls342
 unfold S342
 unfold T342 at T
 refine cnd_imp T (fun T => ?_) (fun T => ?_)
 ·exact T.elim
 ·refine callX_sy (T _ _ (Y.pick [0] rfl).hp) (fun _ _ ⟨_, _, _, p, _⟩ => p.fr) alln ?_
  rintro v2 hv2 ⟨ra2, rb2, rcE_2, PP, rfl, T⟩
  have Y : Sy _ _ hv2 [_] := Y.gr PP.fr
  clear PP
  cases rcE_2
  ·replace T := T.1 rfl
   refine ⟨ra2, rb2, .inl ⟨rfl, ?_⟩⟩
   exact ⟨_, _, none, Y.pick [] rfl, rfl, T⟩
  ·rename_i c
   replace T := T.2 c rfl
   refine ⟨ra2, rb2, .inr ⟨297, .int .i64 c, rfl, ?_⟩⟩
   exact ⟨_, _, (some c), Y.pick [] rfl, rfl, T⟩
def S323 (s : ByteArray) (bitSize : Int) (h : Heap) (R : Value -> Heap -> Prop) : Prop :=
 callX Tryz.prog 342 #[.string s, .int .i64 bitSize] h [] fun e b =>
 ∃ a : Nat, ∃ c : Int, ((e = .tuple #[.float .f64 a, .int .i64 c, .nilIface] /\
  cnd (c != ((s.size : Nat) : Int))
   (R (.tuple #[.float .f64 0, .iface 297 (.int .i64 2)]) b)
   (R (.tuple #[.float .f64 a, .nilIface]) b))
 \/ ∃ (d : Nat) (f : Value), e = .tuple #[.float .f64 a, .int .i64 c, .iface d f] /\
  cnd (c != ((s.size : Nat) : Int))
   (R (.tuple #[.float .f64 0, .iface 297 (.int .i64 2)]) b)
   (R (.tuple #[.float .f64 a, .iface d f]) b))
theorem calls323 {h : Heap} {R : Value -> Heap -> Prop} (s : ByteArray) (bitSize : Int) (H : S323 s bitSize h R) : CallsH Tryz.prog 323 #[.string s, .int .i64 bitSize] h R := by
 have e : S323 s bitSize h R = FX (envX [] 23) { loops := [], joins := [], blocks := [], draws := [] } Tryz.f323 (Tryz.f323.body.getD .skip) [.string s, .int .i64 bitSize] h R := by kernel_rfl
 exact calls_of_FX (envX_ok _ _) Tryz.func323 (by kernel_rfl) (by kernel_rfl) (by kernel_rfl) (e ▸ H)
def Ok323 (s : ByteArray) (bitSize : Int) (R : Nat -> Option Int -> Prop) : Prop :=
 ∀ (h : Heap) (gl : GL), Hp h [Ck.glob gl] -> CallsH Tryz.prog 323 #[.string s, .int .i64 bitSize] h fun v h' => ∃ (raV : Nat) (rbE : Option Int), Sy h [] h' [] /\ v = .tuple #[.float .f64 raV, (errV 297 rbE)] /\ R raV rbE
def T323 (s : ByteArray) (bitSize : Int) (R : Nat -> Option Int -> Prop) : Prop :=
 Ok342 s bitSize (fun a d b =>
 (b = none ->
  cnd (d != ((s.size : Nat) : Int))
   (R 0 (some 2))
   (R a none)) /\
 ∀ c : Int, b = some c ->
 cnd (d != ((s.size : Nat) : Int))
  (R 0 (some 2))
  (R a (some c)))
theorem ok323 {s bitSize} {R : Nat -> Option Int -> Prop} (T : T323 s bitSize R) : Ok323 s bitSize R := by
 intro h gl H
 have Y : Sy h [] h _ := Sy.startM H rfl
 apply calls323
 unfold S323
 unfold T323 at T
 refine callX_sy (T _ _ (Y.pick [0] rfl).hp) (fun _ _ ⟨_, _, _, p, _⟩ => p.fr) alln ?_
 rintro v hv ⟨ra, rb, rcE, PP, rfl, T⟩
 have Y : Sy _ _ hv [_] := Y.gr PP.fr
 clear PP
 cases rcE
 ·replace T := T.1 rfl
  refine ⟨ra, rb, .inl ⟨rfl, ?_⟩⟩
  refine cnd_imp T (fun T => ?_) (fun T => ?_)
  ·exact ⟨_, (some 2), Y.pick [] rfl, rfl, T⟩
  ·exact ⟨_, none, Y.pick [] rfl, rfl, T⟩
 ·rename_i c
  replace T := T.2 c rfl
  refine ⟨ra, rb, .inr ⟨297, .int .i64 c, rfl, ?_⟩⟩
  refine cnd_imp T (fun T => ?_) (fun T => ?_)
  ·exact ⟨_, (some 2), Y.pick [] rfl, rfl, T⟩
  ·exact ⟨_, (some c), Y.pick [] rfl, rfl, T⟩
end Go.Proofs.YtlflalecmhgmjaaGreatDoor.N
