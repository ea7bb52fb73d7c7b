/- Functions: what is left to be shown of each, over memory and without: printed by program, tied to the loaded functions by the kernel. Conditions: none. -/
import Derived.Test.YtmcloipjlihhlaaSEnv
import Derived.Test.YtmcloipjlihhlaaYMore
import Derived.Test.YtmcloipjlihhlaaTMaker
namespace Go.Proofs.Ytmcloipjlihhlaa.N
open Go.Proofs.Ytmcloipjlihhlaa
open Go.X
set_option maxRecDepth 100000
set_option linter.unusedVariables false
set_option linter.unusedSimpArgs false
set_option maxHeartbeats 2000000

/-- tracery/maker.made, handed tracery/maker.Complete$1 -/
def Ok112_123 (eV : Int) (nV : Int) (caV : Int) (R : Int → List (Int × Int) → Int → Prop) : Prop :=
  ∀ (h : Heap) (caB caO : Nat), Hp h [Ck.vob caB caO [.int .i64 caV]] → CallsH Try.prog 112 #[.int .i64 eV, .int .i64 nV, .func (.func 123) #[] #[.pointer (some ⟨caB, caO, none⟩)]] h fun v h' => ∃ (nV2 : Int) (edgesVA : Option Addr) (edgesVL edgesVC : Nat) (edgesV : List (Int × Int)) (rbV : Int), Sy h [] h' [Ck.sl eP 35 edgesVA edgesVL edgesVC edgesV] ∧ v = .tuple #[.agg #[.int .i64 nV2, .slice edgesVA edgesVL edgesVC], .int .i64 rbV] ∧ R nV2 edgesV rbV
theorem Ok112_123.mono {eV nV caV} {R R' : Int → List (Int × Int) → Int → Prop} (H : Ok112_123 eV nV caV R) (kz : ∀ nV2 edgesV rbV, R nV2 edgesV rbV → R' nV2 edgesV rbV) : Ok112_123 eV nV caV R' :=
  fun h caB caO hp => (H h caB caO hp).mono fun _ _ ⟨nV2, edgesVA, edgesVL, edgesVC, edgesV, rbV, P, e, q⟩ => ⟨nV2, edgesVA, edgesVL, edgesVC, edgesV, rbV, P, e, kz _ _ _ q⟩
/-- tracery/maker.made, handed tracery/maker.Two$1 -/
def Ok112_125 (eV : Int) (nV : Int) (caV : Int) (cbV : Int) (R : Int → List (Int × Int) → Int → Prop) : Prop :=
  ∀ (h : Heap) (caB caO : Nat) (cbB cbO : Nat), Hp h [Ck.vob caB caO [.int .i64 caV], Ck.vob cbB cbO [.int .i64 cbV]] → CallsH Try.prog 112 #[.int .i64 eV, .int .i64 nV, .func (.func 125) #[] #[.pointer (some ⟨caB, caO, none⟩), .pointer (some ⟨cbB, cbO, none⟩)]] h fun v h' => ∃ (nV2 : Int) (edgesVA : Option Addr) (edgesVL edgesVC : Nat) (edgesV : List (Int × Int)) (rbV : Int), Sy h [] h' [Ck.sl eP 35 edgesVA edgesVL edgesVC edgesV] ∧ v = .tuple #[.agg #[.int .i64 nV2, .slice edgesVA edgesVL edgesVC], .int .i64 rbV] ∧ R nV2 edgesV rbV
theorem Ok112_125.mono {eV nV caV cbV} {R R' : Int → List (Int × Int) → Int → Prop} (H : Ok112_125 eV nV caV cbV R) (kz : ∀ nV2 edgesV rbV, R nV2 edgesV rbV → R' nV2 edgesV rbV) : Ok112_125 eV nV caV cbV R' :=
  fun h caB caO cbB cbO hp => (H h caB caO cbB cbO hp).mono fun _ _ ⟨nV2, edgesVA, edgesVL, edgesVC, edgesV, rbV, P, e, q⟩ => ⟨nV2, edgesVA, edgesVL, edgesVC, edgesV, rbV, P, e, kz _ _ _ q⟩
/-- tracery/maker.Complete -/
def S33 (n : Int) (h : Heap) (R : Value → Heap → Prop) : Prop :=
  let hv : Heap := h.push (.cells #[.int .i64 n] 3)
  let hv2 : Heap := hv.push (.cells #[.int .i64 0, .slice none 0 0] 26)
  ∃ x : Int, hcell hv2 h.size 0 = some (.int .i64 x) ∧ ∃ Jv : List Value → Heap → Prop, -- join 6 ['m']
  ( cnd (decide (x ≤ (3072 : Int)))
     (∃ x2 : Int, hcell hv2 h.size 0 = some (.int .i64 x2) ∧ ∃ x3 : Int, hcell hv2 h.size 0 = some (.int .i64 x3) ∧ (2 : Int) ≠ 0 ∧ Jv [.int .i64 (IntKind.i64.wrap (Int.tdiv (IntKind.i64.wrap (x2 * (IntKind.i64.wrap (x3 - (1 : Int))))) (2 : Int)))] hv2)
     (Jv [.int .i64 0] hv2)) ∧
  ∀ m : Int, ∀ hv3, Jv [.int .i64 m] hv3 →
  ∃ x4 : Int, hcell hv3 h.size 0 = some (.int .i64 x4) ∧ ∃ x5 : Int, hcell hv3 h.size 0 = some (.int .i64 x5) ∧ ∃ x6 : Int, hcell hv3 h.size 0 = some (.int .i64 x6) ∧ let hv4 : Heap := hv3.push (.cells #[.int .i64 x4] 3)
  Fr [] hv3 hv4 ∧
  callX Try.prog 113 #[.int .i64 1, .slice (some (⟨hv3.size, 0, none⟩ : Addr)) 1 1, .int .i64 x5, .int .i64 m] hv4 [hv.size] fun v hv5 =>
  ∃ r : Int, v = .int .i64 r ∧
  Fr [] hv3 hv5 ∧
  callX Try.prog 112 #[.int .i64 r, .int .i64 x6, .func (.func 123) #[] #[.pointer (some (⟨h.size, 0, none⟩ : Addr))]] hv5 [hv.size] fun v2 hv6 =>
  ∃ ra : Int, ∃ (raA : Option Addr) (raL raC : Nat), ∃ rb : Int, v2 = .tuple #[.agg #[.int .i64 ra, .slice raA raL raC], .int .i64 rb] ∧
  Fr [] hv3 hv6 ∧
  let hv7 : Heap := hset (hset hv6 hv.size 0 (.int .i64 ra)) hv.size (0 + 1) (.slice raA raL raC)
  R (.tuple #[.agg #[.int .i64 ra, .slice raA raL raC], .int .i64 rb]) hv7
theorem calls33 {h : Heap} {R : Value → Heap → Prop} (n : Int) (H : S33 n h R) : CallsH Try.prog 33 #[.int .i64 n] h R := by
  have e : S33 n h R = FX (envX [2] 22) { loops := [], joins := [(6, ⟨[1, 2], [4], [2], []⟩)], blocks := [], draws := [(4, ⟨10, false⟩)] } Try.f33 (Try.f33.body.getD .skip) [.int .i64 n] h R := by kernel_rfl
  exact calls_of_FX (envX_ok _ _) Try.func33 (by kernel_rfl) (by kernel_rfl) (by kernel_rfl) (e ▸ H)
/-- tracery/maker.Complete -/
def Ok33 (n : Int) (R : Int → List (Int × Int) → Int → Prop) : Prop :=
  ∀ (h : Heap), Hp h [] → CallsH Try.prog 33 #[.int .i64 n] h fun v h' => ∃ (nV : Int) (edgesVA : Option Addr) (edgesVL edgesVC : Nat) (edgesV : List (Int × Int)) (rbV : Int), Sy h [] h' [Ck.sl eP 35 edgesVA edgesVL edgesVC edgesV] ∧ v = .tuple #[.agg #[.int .i64 nV, .slice edgesVA edgesVL edgesVC], .int .i64 rbV] ∧ R nV edgesV rbV
theorem Ok33.mono {n} {R R' : Int → List (Int × Int) → Int → Prop} (H : Ok33 n R) (kz : ∀ nV edgesV rbV, R nV edgesV rbV → R' nV edgesV rbV) : Ok33 n R' :=
  fun h  hp => (H h  hp).mono fun _ _ ⟨nV, edgesVA, edgesVL, edgesVC, edgesV, rbV, P, e, q⟩ => ⟨nV, edgesVA, edgesVL, edgesVC, edgesV, rbV, P, e, kz _ _ _ q⟩
def T33 (n : Int) (R : Int → List (Int × Int) → Int → Prop) : Prop :=
  ∃ Jv : Int → Prop,
  ( cnd (decide (n ≤ (3072 : Int)))
     ((2 : Int) ≠ 0 ∧ Jv (IntKind.i64.wrap (Int.tdiv (IntKind.i64.wrap (n * (IntKind.i64.wrap (n - (1 : Int))))) (2 : Int))))
     (Jv 0)) ∧
  ∀ m : Int, Jv m →
  Ok113 1 ([n] : List Int) n m (fun r =>
  Ok112_123 r n n (fun ra ra_2 rb =>
  R ra ra_2 rb))
theorem ok33 {n} {R : Int → List (Int × Int) → Int → Prop} (T : T33 n R) : Ok33 n R := by
  intro h  H
  have Y : Sy h [] h _ := Sy.startM H rfl
  apply calls33
  unfold S33
  unfold T33 at T
  intro hv
  have Y : Sy _ _ hv [_] := Y.newO _
  clear_value hv
  intro hv2
  have Y : Sy _ _ hv2 [_, _] := Y.junk _
  clear_value hv2
  refine ⟨_, Y.cellO 0 rfl 0 rfl, ?_⟩
  obtain ⟨Jv, T0, T1⟩ := T
  obtain ⟨B, hB, _⟩ := Y.cut [] [0, 1] rfl
  refine ⟨fun lz h' => ∃ (m : Int), lz = [.int .i64 m] ∧ Sy h [] h' ([] ++ B) ∧ Jv m, ?_, ?_⟩
  · subst hB
    replace T := T0
    clear T0 T1
    refine cnd_imp T (fun T => ?_) (fun T => ?_)
    · refine ⟨_, Y.cellO 0 rfl 0 rfl, ?_⟩
      refine ⟨_, Y.cellO 0 rfl 0 rfl, ?_⟩
      obtain ⟨q, T⟩ := T
      refine ⟨q, ?_⟩
      exact ⟨_, rfl, Y.pick [0, 1] rfl, T⟩
    · exact ⟨_, rfl, Y.pick [0, 1] rfl, T⟩
  · subst hB
    clear T0 Y
    rintro m hv3 ⟨m, e, Y, T⟩
    cases e
    replace T := T1 m T
    have Y : Sy _ _ _ [_, _] := Y
    have Y0 := Y
    have F : Fr [] hv3 hv3 := Fr.refl _ _
    refine ⟨_, Y0.cellO 0 rfl 0 rfl, ?_⟩
    refine ⟨_, Y0.cellO 0 rfl 0 rfl, ?_⟩
    refine ⟨_, Y0.cellO 0 rfl 0 rfl, ?_⟩
    intro hv4
    have Y : Sy _ _ hv4 [_, _, _] := Y.litS (E := eI) (ty := 3) ([n] : List Int) rfl (by simp [maxLen])
    have F : Fr _ _ hv4 := F.pushr _
    have fshv4 := F.size
    clear_value hv4
    refine ⟨F, ?_⟩
    refine callX_sy (T _ _ _ _ ((Y.turn 2 rfl To.slvw).pick [2] rfl).hp) (fun _ _ ⟨_, p, _⟩ => p.fr) (allc (fun h => by cases h) alln) ?_
    rintro v hv5 ⟨r, PP, rfl, T⟩
    have F : Fr _ _ hv5 := F.trans PP.fr.nil
    have fshv5 := F.size
    have Y : Sy _ _ hv5 [_, _, _] := Y.gr PP.fr
    clear PP
    refine ⟨r, rfl, ?_⟩
    refine ⟨F, ?_⟩
    refine callX_sy (T _ _ _ ((Y.turn 0 rfl To.obvob).pick [0] rfl).hp) (fun _ _ ⟨_, _, _, _, _, _, p, _⟩ => p.fr) (allc (fun h => by cases h) alln) ?_
    rintro v2 hv6 ⟨ra, raA, raL, raC, ra_2, rb, PP, rfl, T⟩
    have F : Fr _ _ hv6 := F.trans PP.fr.nil
    have fshv6 := F.size
    have Y : Sy _ _ hv6 [_, _, _, _] := Y.callV PP ⟨rfl, trivial⟩
    clear PP
    obtain rfl := Y.lenS 3 rfl
    refine ⟨ra, _, _, _, rb, rfl, ?_⟩
    refine ⟨F, ?_⟩
    intro hv7
    have Y : Sy _ _ hv7 [_, _, _, _] := ((Y.stJ 1 rfl _ _).stJ 1 rfl _ _)
    clear_value hv7
    exact ⟨_, _, _, _, _, _, Y.pick [3] rfl, rfl, T⟩
/-- tracery/maker.Two -/
def S34 (a : Int) (b : Int) (h : Heap) (R : Value → Heap → Prop) : Prop :=
  let hv : Heap := h.push (.cells #[.int .i64 a] 3)
  let hv2 : Heap := hv.push (.cells #[.int .i64 b] 3)
  let hv3 : Heap := hv2.push (.cells #[.int .i64 0, .slice none 0 0] 26)
  let K := fun (n2 : Int) (hv5 : Heap) =>
    (let K2 := fun (x9 : Int) (xA : Option Addr) (xL xC : Nat) (x10 : Int) (hv14 : Heap) =>
      (let hv15 : Heap := hset (hset hv14 hv2.size 0 (.int .i64 x9)) hv2.size (0 + 1) (.slice xA xL xC)
      R (.tuple #[.agg #[.int .i64 x9, .slice xA xL xC], .int .i64 x10]) hv15)
    ∃ x5 : Int, hcell hv5 h.size 0 = some (.int .i64 x5) ∧ ∃ x6 : Int, hcell hv5 hv.size 0 = some (.int .i64 x6) ∧ ∃ x7 : Int, hcell hv5 h.size 0 = some (.int .i64 x7) ∧ ∃ x8 : Int, hcell hv5 hv.size 0 = some (.int .i64 x8) ∧ (let hv6 : Heap := hv5.push (.cells #[.int .i64 x5, .int .i64 x6] 3)
    Fr [] hv5 hv6 ∧
    callX Try.prog 124 #[.int .i64 x7, .int .i64 x8] hv6 [hv2.size] fun v hv7 =>
    ∃ r : Int, v = .int .i64 r ∧
    Fr [] hv5 hv7 ∧
    callX Try.prog 113 #[.int .i64 1, .slice (some (⟨hv5.size, 0, none⟩ : Addr)) 2 2, .int .i64 n2, .int .i64 r] hv7 [hv2.size] fun v2 hv8 =>
    ∃ r2 : Int, v2 = .int .i64 r2 ∧
    Fr [] hv5 hv8 ∧
    callX Try.prog 112 #[.int .i64 r2, .int .i64 n2, .func (.func 125) #[] #[.pointer (some (⟨h.size, 0, none⟩ : Addr)), .pointer (some (⟨hv.size, 0, none⟩ : Addr))]] hv8 [hv2.size] fun v3 hv9 =>
    ∃ ra : Int, ∃ (raA : Option Addr) (raL raC : Nat), ∃ rb : Int, v3 = .tuple #[.agg #[.int .i64 ra, .slice raA raL raC], .int .i64 rb] ∧
    Fr [] hv5 hv9 ∧
    K2 ra raA raL raC rb hv9)
    ∧ ( callX Try.prog 124 #[.int .i64 x7, .int .i64 x8] hv5 [hv2.size] fun v4 hv10 =>
     ∃ r3 : Int, v4 = .int .i64 r3 ∧
     Fr [] hv5 hv10 ∧
     let hv11 : Heap := hv10.push (.cells #[.int .i64 x5, .int .i64 x6] 3)
     Fr [] hv5 hv11 ∧
     callX Try.prog 113 #[.int .i64 1, .slice (some (⟨hv10.size, 0, none⟩ : Addr)) 2 2, .int .i64 n2, .int .i64 r3] hv11 [hv2.size] fun v5 hv12 =>
     ∃ r4 : Int, v5 = .int .i64 r4 ∧
     Fr [] hv5 hv12 ∧
     callX Try.prog 112 #[.int .i64 r4, .int .i64 n2, .func (.func 125) #[] #[.pointer (some (⟨h.size, 0, none⟩ : Addr)), .pointer (some (⟨hv.size, 0, none⟩ : Addr))]] hv12 [hv2.size] fun v6 hv13 =>
     ∃ ra2 : Int, ∃ (raA2 : Option Addr) (raL2 raC2 : Nat), ∃ rb2 : Int, v6 = .tuple #[.agg #[.int .i64 ra2, .slice raA2 raL2 raC2], .int .i64 rb2] ∧
     Fr [] hv5 hv13 ∧
     K2 ra2 raA2 raL2 raC2 rb2 hv13))
  ∃ x : Int, hcell hv3 h.size 0 = some (.int .i64 x) ∧ cnd (decide (x ≤ (3072 : Int)))
    (∃ x2 : Int, hcell hv3 hv.size 0 = some (.int .i64 x2) ∧ ∃ Jv : List Value → Heap → Prop, -- join 12 ['n']
    ( cnd (decide (x2 ≤ (3072 : Int)))
       (∃ x3 : Int, hcell hv3 h.size 0 = some (.int .i64 x3) ∧ ∃ x4 : Int, hcell hv3 hv.size 0 = some (.int .i64 x4) ∧ Jv [.int .i64 (IntKind.i64.wrap (x3 + x4))] hv3)
       (Jv [.int .i64 0] hv3)) ∧
    ∀ n : Int, ∀ hv4, Jv [.int .i64 n] hv4 →
    K n hv4)
    (K 0 hv3)
theorem calls34 {h : Heap} {R : Value → Heap → Prop} (a : Int) (b : Int) (H : S34 a b h R) : CallsH Try.prog 34 #[.int .i64 a, .int .i64 b] h R := by
  have e : S34 a b h R = FX (envX [4] 29) { loops := [], joins := [(12, ⟨[2, 3, 4], [6], [4], []⟩)], blocks := [], draws := [(4, ⟨13, false⟩)] } Try.f34 (Try.f34.body.getD .skip) [.int .i64 a, .int .i64 b] h R := by kernel_rfl
  exact calls_of_FX (envX_ok _ _) Try.func34 (by kernel_rfl) (by kernel_rfl) (by kernel_rfl) (e ▸ H)
/-- tracery/maker.Two -/
def Ok34 (a : Int) (b : Int) (R : Int → List (Int × Int) → Int → Prop) : Prop :=
  ∀ (h : Heap), Hp h [] → CallsH Try.prog 34 #[.int .i64 a, .int .i64 b] h fun v h' => ∃ (nV : Int) (edgesVA : Option Addr) (edgesVL edgesVC : Nat) (edgesV : List (Int × Int)) (rbV : Int), Sy h [] h' [Ck.sl eP 35 edgesVA edgesVL edgesVC edgesV] ∧ v = .tuple #[.agg #[.int .i64 nV, .slice edgesVA edgesVL edgesVC], .int .i64 rbV] ∧ R nV edgesV rbV
theorem Ok34.mono {a b} {R R' : Int → List (Int × Int) → Int → Prop} (H : Ok34 a b R) (kz : ∀ nV edgesV rbV, R nV edgesV rbV → R' nV edgesV rbV) : Ok34 a b R' :=
  fun h  hp => (H h  hp).mono fun _ _ ⟨nV, edgesVA, edgesVL, edgesVC, edgesV, rbV, P, e, q⟩ => ⟨nV, edgesVA, edgesVL, edgesVC, edgesV, rbV, P, e, kz _ _ _ q⟩
def T34 (a : Int) (b : Int) (R : Int → List (Int × Int) → Int → Prop) : Prop :=
  ∃ Jv_2 : Int → Prop,
  ( cnd (decide (a ≤ (3072 : Int)))
     (∃ Jv : Int → Prop,
     ( cnd (decide (b ≤ (3072 : Int)))
        (Jv (IntKind.i64.wrap (a + b)))
        (Jv 0)) ∧
     ∀ n : Int, Jv n →
     Jv_2 n)
     (Jv_2 0)) ∧
  ∀ n2 : Int, Jv_2 n2 →
  ∃ Jv_3 : Int → List (Int × Int) → Int → Prop,
  ( Ok124 a b (fun r =>
   Ok113 1 ([a, b] : List Int) n2 r (fun r2 =>
   Ok112_125 r2 n2 a b (fun ra ra_2 rb =>
   Jv_3 ra ra_2 rb)))) ∧
  ∀ x9 : Int, ∀ x_2 : List (Int × Int), ∀ x10 : Int, Jv_3 x9 x_2 x10 →
  R x9 x_2 x10
theorem ok34 {a b} {R : Int → List (Int × Int) → Int → Prop} (T : T34 a b R) : Ok34 a b R := by
  intro h  H
  have Y : Sy h [] h _ := Sy.startM H rfl
  apply calls34
  unfold S34
  unfold T34 at T
  intro hv
  have Y : Sy _ _ hv [_] := Y.newO _
  clear_value hv
  intro hv2
  have Y : Sy _ _ hv2 [_, _] := Y.newO _
  clear_value hv2
  intro hv3
  have Y : Sy _ _ hv3 [_, _, _] := Y.junk _
  clear_value hv3
  obtain ⟨Jv_2, T0, T1⟩ := T
  obtain ⟨B, hB, _⟩ := Y.cut [] [0, 1, 2] rfl
  intro K
  have hK : ∀ (n2 : Int) (hv5 : Heap), (Sy h [] hv5 ([] ++ B) ∧ Jv_2 n2) → K n2 hv5 := by
    subst hB
    clear T0 Y
    rintro n2 hv5 ⟨Y, T⟩
    replace T := T1 n2 T
    have Y : Sy _ _ _ [_, _, _] := Y
    unfold K
    obtain ⟨Jv_3, T0, T1⟩ := T
    obtain ⟨B_2, hB_2, _⟩ := Y.cut [] [0, 1, 2] rfl
    intro K2
    have hK2 : ∀ (x9 : Int) (xA : Option Addr) (xL xC : Nat) (x10 : Int) (hv14 : Heap), (∃ (x_2 : List (Int × Int)), Sy h [] hv14 ([Ck.sl eP 35 xA xL xC x_2] ++ B_2) ∧ Jv_3 x9 x_2 x10) → K2 x9 xA xL xC x10 hv14 := by
      subst hB_2
      clear T0 Y
      rintro x9 xA xL xC x10 hv14 ⟨x_2, Y, T⟩
      obtain rfl := Y.lenS 0 rfl
      replace T := T1 x9 x_2 x10 T
      have Y : Sy _ _ _ [_, _, _, _] := Y
      unfold K2
      intro hv15
      have Y : Sy _ _ hv15 [_, _, _, _] := ((Y.stJ 3 rfl _ _).stJ 3 rfl _ _)
      clear_value hv15
      exact ⟨_, _, _, _, _, _, Y.pick [0] rfl, rfl, T⟩
    subst hB_2
    replace T := T0
    clear T0 T1
    have Y0 := Y
    have F : Fr [] hv5 hv5 := Fr.refl _ _
    refine ⟨_, Y0.cellO 0 rfl 0 rfl, ?_⟩
    refine ⟨_, Y0.cellO 1 rfl 0 rfl, ?_⟩
    refine ⟨_, Y0.cellO 0 rfl 0 rfl, ?_⟩
    refine ⟨_, Y0.cellO 1 rfl 0 rfl, ?_⟩
    refine ⟨?_, ?_⟩
    · intro hv6
      have Y : Sy _ _ hv6 [_, _, _, _] := Y.litS (E := eI) (ty := 3) ([a, b] : List Int) rfl (by simp [maxLen])
      have F : Fr _ _ hv6 := F.pushr _
      have fshv6 := F.size
      clear_value hv6
      refine ⟨F, ?_⟩
      refine callX_sy (T _ (Hp.nil _)) (fun _ _ ⟨_, p, _⟩ => p.fr) (allc (fun h => by cases h) alln) ?_
      rintro v hv7 ⟨r, PP, rfl, T⟩
      have F : Fr _ _ hv7 := F.trans PP.fr.nil
      have fshv7 := F.size
      have Y : Sy _ _ hv7 [_, _, _, _] := Y.gr PP.fr
      clear PP
      refine ⟨r, rfl, ?_⟩
      refine ⟨F, ?_⟩
      refine callX_sy (T _ _ _ _ ((Y.turn 3 rfl To.slvw).pick [3] rfl).hp) (fun _ _ ⟨_, p, _⟩ => p.fr) (allc (fun h => by cases h) alln) ?_
      rintro v2 hv8 ⟨r2, PP, rfl, T⟩
      have F : Fr _ _ hv8 := F.trans PP.fr.nil
      have fshv8 := F.size
      have Y : Sy _ _ hv8 [_, _, _, _] := Y.gr PP.fr
      clear PP
      refine ⟨r2, rfl, ?_⟩
      refine ⟨F, ?_⟩
      refine callX_sy (T _ _ _ _ _ (((Y.turn 0 rfl To.obvob).turn 1 rfl To.obvob).pick [0, 1] rfl).hp) (fun _ _ ⟨_, _, _, _, _, _, p, _⟩ => p.fr) (allc (fun h => by cases h) alln) ?_
      rintro v3 hv9 ⟨ra, raA, raL, raC, ra_2, rb, PP, rfl, T⟩
      have F : Fr _ _ hv9 := F.trans PP.fr.nil
      have fshv9 := F.size
      have Y : Sy _ _ hv9 [_, _, _, _, _] := Y.callV PP ⟨rfl, trivial⟩
      clear PP
      obtain rfl := Y.lenS 4 rfl
      refine ⟨ra, _, _, _, rb, rfl, ?_⟩
      refine ⟨F, ?_⟩
      exact hK2 _ _ _ _ _ _ ⟨_, Y.pick [4, 0, 1, 2] rfl, T⟩
    · refine callX_sy (T _ (Hp.nil _)) (fun _ _ ⟨_, p, _⟩ => p.fr) (allc (fun h => by cases h) alln) ?_
      rintro v4 hv10 ⟨r3, PP, rfl, T⟩
      have F : Fr _ _ hv10 := F.trans PP.fr.nil
      have fshv10 := F.size
      have Y : Sy _ _ hv10 [_, _, _] := Y.gr PP.fr
      clear PP
      refine ⟨r3, rfl, ?_⟩
      refine ⟨F, ?_⟩
      intro hv11
      have Y : Sy _ _ hv11 [_, _, _, _] := Y.litS (E := eI) (ty := 3) ([a, b] : List Int) rfl (by simp [maxLen])
      have F : Fr _ _ hv11 := F.pushr _
      have fshv11 := F.size
      clear_value hv11
      refine ⟨F, ?_⟩
      refine callX_sy (T _ _ _ _ ((Y.turn 3 rfl To.slvw).pick [3] rfl).hp) (fun _ _ ⟨_, p, _⟩ => p.fr) (allc (fun h => by cases h) alln) ?_
      rintro v5 hv12 ⟨r4, PP, rfl, T⟩
      have F : Fr _ _ hv12 := F.trans PP.fr.nil
      have fshv12 := F.size
      have Y : Sy _ _ hv12 [_, _, _, _] := Y.gr PP.fr
      clear PP
      refine ⟨r4, rfl, ?_⟩
      refine ⟨F, ?_⟩
      refine callX_sy (T _ _ _ _ _ (((Y.turn 0 rfl To.obvob).turn 1 rfl To.obvob).pick [0, 1] rfl).hp) (fun _ _ ⟨_, _, _, _, _, _, p, _⟩ => p.fr) (allc (fun h => by cases h) alln) ?_
      rintro v6 hv13 ⟨ra2, raA2, raL2, raC2, ra_3, rb2, PP, rfl, T⟩
      have F : Fr _ _ hv13 := F.trans PP.fr.nil
      have fshv13 := F.size
      have Y : Sy _ _ hv13 [_, _, _, _, _] := Y.callV PP ⟨rfl, trivial⟩
      clear PP
      obtain rfl := Y.lenS 4 rfl
      refine ⟨ra2, _, _, _, rb2, rfl, ?_⟩
      refine ⟨F, ?_⟩
      exact hK2 _ _ _ _ _ _ ⟨_, Y.pick [4, 0, 1, 2] rfl, T⟩
  subst hB
  replace T := T0
  clear T0 T1
  refine ⟨_, Y.cellO 0 rfl 0 rfl, ?_⟩
  refine cnd_imp T (fun T => ?_) (fun T => ?_)
  · refine ⟨_, Y.cellO 1 rfl 0 rfl, ?_⟩
    obtain ⟨Jv, T0, T1⟩ := T
    obtain ⟨B_3, hB_3, _⟩ := Y.cut [] [0, 1, 2] rfl
    refine ⟨fun lz h' => ∃ (n : Int), lz = [.int .i64 n] ∧ Sy h [] h' ([] ++ B_3) ∧ Jv n, ?_, ?_⟩
    · subst hB_3
      replace T := T0
      clear T0 T1
      refine cnd_imp T (fun T => ?_) (fun T => ?_)
      · refine ⟨_, Y.cellO 0 rfl 0 rfl, ?_⟩
        refine ⟨_, Y.cellO 1 rfl 0 rfl, ?_⟩
        exact ⟨_, rfl, Y.pick [0, 1, 2] rfl, T⟩
      · exact ⟨_, rfl, Y.pick [0, 1, 2] rfl, T⟩
    · subst hB_3
      clear T0 Y
      rintro n hv4 ⟨n, e, Y, T⟩
      cases e
      replace T := T1 n T
      have Y : Sy _ _ _ [_, _, _] := Y
      exact hK _ _ ⟨Y.pick [0, 1, 2] rfl, T⟩
  · exact hK _ _ ⟨Y.pick [0, 1, 2] rfl, T⟩
end Go.Proofs.Ytmcloipjlihhlaa.N
