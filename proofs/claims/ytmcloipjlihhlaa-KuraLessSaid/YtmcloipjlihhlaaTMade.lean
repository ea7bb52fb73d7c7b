/- Functions: what is left to be shown of each, over memory and without: printed by program, tied to the loaded functions by the kernel. Conditions: none. -/
import Derived.Test.YtmcloipjlihhlaaSEnv
import Derived.Test.YtmcloipjlihhlaaYMore
import Derived.Test.YtmcloipjlihhlaaTMaker
namespace Go.Proofs.Ytmcloipjlihhlaa.N
open Go.Proofs.Ytmcloipjlihhlaa
open Go.X
set_option maxRecDepth 100000
set_option linter.unusedVariables false
set_option linter.unusedSimpArgs false
set_option maxHeartbeats 2000000

/-- tracery/maker.made, handed tracery/maker.Cycle$1 -/
def Ok112_120 (eV : Int) (nV : Int) (caV : Int) (R : Int → List (Int × Int) → Int → Prop) : Prop :=
  ∀ (h : Heap) (caB caO : Nat), Hp h [Ck.vob caB caO [.int .i64 caV]] → CallsH Try.prog 112 #[.int .i64 eV, .int .i64 nV, .func (.func 120) #[] #[.pointer (some ⟨caB, caO, none⟩)]] h fun v h' => ∃ (nV2 : Int) (edgesVA : Option Addr) (edgesVL edgesVC : Nat) (edgesV : List (Int × Int)) (rbV : Int), Sy h [] h' [Ck.sl eP 35 edgesVA edgesVL edgesVC edgesV] ∧ v = .tuple #[.agg #[.int .i64 nV2, .slice edgesVA edgesVL edgesVC], .int .i64 rbV] ∧ R nV2 edgesV rbV
theorem Ok112_120.mono {eV nV caV} {R R' : Int → List (Int × Int) → Int → Prop} (H : Ok112_120 eV nV caV R) (kz : ∀ nV2 edgesV rbV, R nV2 edgesV rbV → R' nV2 edgesV rbV) : Ok112_120 eV nV caV R' :=
  fun h caB caO hp => (H h caB caO hp).mono fun _ _ ⟨nV2, edgesVA, edgesVL, edgesVC, edgesV, rbV, P, e, q⟩ => ⟨nV2, edgesVA, edgesVL, edgesVC, edgesV, rbV, P, e, kz _ _ _ q⟩

/-- tracery/maker.made, handed tracery/maker.Wheel$1 -/
def Ok112_121 (eV : Int) (nV : Int) (caV : Int) (R : Int → List (Int × Int) → Int → Prop) : Prop :=
  ∀ (h : Heap) (caB caO : Nat), Hp h [Ck.vob caB caO [.int .i64 caV]] → CallsH Try.prog 112 #[.int .i64 eV, .int .i64 nV, .func (.func 121) #[] #[.pointer (some ⟨caB, caO, none⟩)]] h fun v h' => ∃ (nV2 : Int) (edgesVA : Option Addr) (edgesVL edgesVC : Nat) (edgesV : List (Int × Int)) (rbV : Int), Sy h [] h' [Ck.sl eP 35 edgesVA edgesVL edgesVC edgesV] ∧ v = .tuple #[.agg #[.int .i64 nV2, .slice edgesVA edgesVL edgesVC], .int .i64 rbV] ∧ R nV2 edgesV rbV
theorem Ok112_121.mono {eV nV caV} {R R' : Int → List (Int × Int) → Int → Prop} (H : Ok112_121 eV nV caV R) (kz : ∀ nV2 edgesV rbV, R nV2 edgesV rbV → R' nV2 edgesV rbV) : Ok112_121 eV nV caV R' :=
  fun h caB caO hp => (H h caB caO hp).mono fun _ _ ⟨nV2, edgesVA, edgesVL, edgesVC, edgesV, rbV, P, e, q⟩ => ⟨nV2, edgesVA, edgesVL, edgesVC, edgesV, rbV, P, e, kz _ _ _ q⟩

/-- tracery/maker.made, handed tracery/maker.Prism$1 -/
def Ok112_122 (eV : Int) (nV : Int) (caV : Int) (R : Int → List (Int × Int) → Int → Prop) : Prop :=
  ∀ (h : Heap) (caB caO : Nat), Hp h [Ck.vob caB caO [.int .i64 caV]] → CallsH Try.prog 112 #[.int .i64 eV, .int .i64 nV, .func (.func 122) #[] #[.pointer (some ⟨caB, caO, none⟩)]] h fun v h' => ∃ (nV2 : Int) (edgesVA : Option Addr) (edgesVL edgesVC : Nat) (edgesV : List (Int × Int)) (rbV : Int), Sy h [] h' [Ck.sl eP 35 edgesVA edgesVL edgesVC edgesV] ∧ v = .tuple #[.agg #[.int .i64 nV2, .slice edgesVA edgesVL edgesVC], .int .i64 rbV] ∧ R nV2 edgesV rbV
theorem Ok112_122.mono {eV nV caV} {R R' : Int → List (Int × Int) → Int → Prop} (H : Ok112_122 eV nV caV R) (kz : ∀ nV2 edgesV rbV, R nV2 edgesV rbV → R' nV2 edgesV rbV) : Ok112_122 eV nV caV R' :=
  fun h caB caO hp => (H h caB caO hp).mono fun _ _ ⟨nV2, edgesVA, edgesVL, edgesVC, edgesV, rbV, P, e, q⟩ => ⟨nV2, edgesVA, edgesVL, edgesVC, edgesV, rbV, P, e, kz _ _ _ q⟩

/-- tracery/maker.made, handed tracery/maker.Complete$1 -/
def Ok112_123 (eV : Int) (nV : Int) (caV : Int) (R : Int → List (Int × Int) → Int → Prop) : Prop :=
  ∀ (h : Heap) (caB caO : Nat), Hp h [Ck.vob caB caO [.int .i64 caV]] → CallsH Try.prog 112 #[.int .i64 eV, .int .i64 nV, .func (.func 123) #[] #[.pointer (some ⟨caB, caO, none⟩)]] h fun v h' => ∃ (nV2 : Int) (edgesVA : Option Addr) (edgesVL edgesVC : Nat) (edgesV : List (Int × Int)) (rbV : Int), Sy h [] h' [Ck.sl eP 35 edgesVA edgesVL edgesVC edgesV] ∧ v = .tuple #[.agg #[.int .i64 nV2, .slice edgesVA edgesVL edgesVC], .int .i64 rbV] ∧ R nV2 edgesV rbV
theorem Ok112_123.mono {eV nV caV} {R R' : Int → List (Int × Int) → Int → Prop} (H : Ok112_123 eV nV caV R) (kz : ∀ nV2 edgesV rbV, R nV2 edgesV rbV → R' nV2 edgesV rbV) : Ok112_123 eV nV caV R' :=
  fun h caB caO hp => (H h caB caO hp).mono fun _ _ ⟨nV2, edgesVA, edgesVL, edgesVC, edgesV, rbV, P, e, q⟩ => ⟨nV2, edgesVA, edgesVL, edgesVC, edgesV, rbV, P, e, kz _ _ _ q⟩

/-- tracery/maker.made, handed tracery/maker.Two$1 -/
def Ok112_125 (eV : Int) (nV : Int) (caV : Int) (cbV : Int) (R : Int → List (Int × Int) → Int → Prop) : Prop :=
  ∀ (h : Heap) (caB caO : Nat) (cbB cbO : Nat), Hp h [Ck.vob caB caO [.int .i64 caV], Ck.vob cbB cbO [.int .i64 cbV]] → CallsH Try.prog 112 #[.int .i64 eV, .int .i64 nV, .func (.func 125) #[] #[.pointer (some ⟨caB, caO, none⟩), .pointer (some ⟨cbB, cbO, none⟩)]] h fun v h' => ∃ (nV2 : Int) (edgesVA : Option Addr) (edgesVL edgesVC : Nat) (edgesV : List (Int × Int)) (rbV : Int), Sy h [] h' [Ck.sl eP 35 edgesVA edgesVL edgesVC edgesV] ∧ v = .tuple #[.agg #[.int .i64 nV2, .slice edgesVA edgesVL edgesVC], .int .i64 rbV] ∧ R nV2 edgesV rbV
theorem Ok112_125.mono {eV nV caV cbV} {R R' : Int → List (Int × Int) → Int → Prop} (H : Ok112_125 eV nV caV cbV R) (kz : ∀ nV2 edgesV rbV, R nV2 edgesV rbV → R' nV2 edgesV rbV) : Ok112_125 eV nV caV cbV R' :=
  fun h caB caO cbB cbO hp => (H h caB caO cbB cbO hp).mono fun _ _ ⟨nV2, edgesVA, edgesVL, edgesVC, edgesV, rbV, P, e, q⟩ => ⟨nV2, edgesVA, edgesVL, edgesVC, edgesV, rbV, P, e, kz _ _ _ q⟩

/-- tracery/maker.made, handed tracery/maker.Grid$1 -/
def Ok112_126 (eV : Int) (nV : Int) (caV : Int) (cbV : Int) (R : Int → List (Int × Int) → Int → Prop) : Prop :=
  ∀ (h : Heap) (caB caO : Nat) (cbB cbO : Nat), Hp h [Ck.vob caB caO [.int .i64 caV], Ck.vob cbB cbO [.int .i64 cbV]] → CallsH Try.prog 112 #[.int .i64 eV, .int .i64 nV, .func (.func 126) #[] #[.pointer (some ⟨caB, caO, none⟩), .pointer (some ⟨cbB, cbO, none⟩)]] h fun v h' => ∃ (nV2 : Int) (edgesVA : Option Addr) (edgesVL edgesVC : Nat) (edgesV : List (Int × Int)) (rbV : Int), Sy h [] h' [Ck.sl eP 35 edgesVA edgesVL edgesVC edgesV] ∧ v = .tuple #[.agg #[.int .i64 nV2, .slice edgesVA edgesVL edgesVC], .int .i64 rbV] ∧ R nV2 edgesV rbV
theorem Ok112_126.mono {eV nV caV cbV} {R R' : Int → List (Int × Int) → Int → Prop} (H : Ok112_126 eV nV caV cbV R) (kz : ∀ nV2 edgesV rbV, R nV2 edgesV rbV → R' nV2 edgesV rbV) : Ok112_126 eV nV caV cbV R' :=
  fun h caB caO cbB cbO hp => (H h caB caO cbB cbO hp).mono fun _ _ ⟨nV2, edgesVA, edgesVL, edgesVC, edgesV, rbV, P, e, q⟩ => ⟨nV2, edgesVA, edgesVL, edgesVC, edgesV, rbV, P, e, kz _ _ _ q⟩

/-- tracery/maker.made, handed tracery/maker.Stack$1 -/
def Ok112_114 (eV : Int) (nV : Int) (caV : Int) (cbV : Int) (R : Int → List (Int × Int) → Int → Prop) : Prop :=
  ∀ (h : Heap) (caB caO : Nat) (cbB cbO : Nat), Hp h [Ck.vob caB caO [.int .u64 caV], Ck.vob cbB cbO [.int .i64 cbV]] → CallsH Try.prog 112 #[.int .i64 eV, .int .i64 nV, .func (.func 114) #[] #[.pointer (some ⟨caB, caO, none⟩), .pointer (some ⟨cbB, cbO, none⟩)]] h fun v h' => ∃ (nV2 : Int) (edgesVA : Option Addr) (edgesVL edgesVC : Nat) (edgesV : List (Int × Int)) (rbV : Int), Sy h [] h' [Ck.sl eP 35 edgesVA edgesVL edgesVC edgesV] ∧ v = .tuple #[.agg #[.int .i64 nV2, .slice edgesVA edgesVL edgesVC], .int .i64 rbV] ∧ R nV2 edgesV rbV
theorem Ok112_114.mono {eV nV caV cbV} {R R' : Int → List (Int × Int) → Int → Prop} (H : Ok112_114 eV nV caV cbV R) (kz : ∀ nV2 edgesV rbV, R nV2 edgesV rbV → R' nV2 edgesV rbV) : Ok112_114 eV nV caV cbV R' :=
  fun h caB caO cbB cbO hp => (H h caB caO cbB cbO hp).mono fun _ _ ⟨nV2, edgesVA, edgesVL, edgesVC, edgesV, rbV, P, e, q⟩ => ⟨nV2, edgesVA, edgesVL, edgesVC, edgesV, rbV, P, e, kz _ _ _ q⟩

/-- tracery/maker.made, handed tracery/maker.Path$1 -/
def Ok112_200 (eV : Int) (nV : Int) (caV : Int) (R : Int → List (Int × Int) → Int → Prop) : Prop :=
  ∀ (h : Heap) (caB caO : Nat), Hp h [Ck.vob caB caO [.int .i64 caV]] → CallsH Try.prog 112 #[.int .i64 eV, .int .i64 nV, .func (.func 200) #[] #[.pointer (some ⟨caB, caO, none⟩)]] h fun v h' => ∃ (nV2 : Int) (edgesVA : Option Addr) (edgesVL edgesVC : Nat) (edgesV : List (Int × Int)) (rbV : Int), Sy h [] h' [Ck.sl eP 35 edgesVA edgesVL edgesVC edgesV] ∧ v = .tuple #[.agg #[.int .i64 nV2, .slice edgesVA edgesVL edgesVC], .int .i64 rbV] ∧ R nV2 edgesV rbV
theorem Ok112_200.mono {eV nV caV} {R R' : Int → List (Int × Int) → Int → Prop} (H : Ok112_200 eV nV caV R) (kz : ∀ nV2 edgesV rbV, R nV2 edgesV rbV → R' nV2 edgesV rbV) : Ok112_200 eV nV caV R' :=
  fun h caB caO hp => (H h caB caO hp).mono fun _ _ ⟨nV2, edgesVA, edgesVL, edgesVC, edgesV, rbV, P, e, q⟩ => ⟨nV2, edgesVA, edgesVL, edgesVC, edgesV, rbV, P, e, kz _ _ _ q⟩

/-- tracery/maker.made, handed tracery/maker.Bond$1 -/
def Ok112_201 (eV : Int) (nV : Int) (caV : Int) (R : Int → List (Int × Int) → Int → Prop) : Prop :=
  ∀ (h : Heap) (caB caO : Nat), Hp h [Ck.vob caB caO [.int .i64 caV]] → CallsH Try.prog 112 #[.int .i64 eV, .int .i64 nV, .func (.func 201) #[] #[.pointer (some ⟨caB, caO, none⟩)]] h fun v h' => ∃ (nV2 : Int) (edgesVA : Option Addr) (edgesVL edgesVC : Nat) (edgesV : List (Int × Int)) (rbV : Int), Sy h [] h' [Ck.sl eP 35 edgesVA edgesVL edgesVC edgesV] ∧ v = .tuple #[.agg #[.int .i64 nV2, .slice edgesVA edgesVL edgesVC], .int .i64 rbV] ∧ R nV2 edgesV rbV
theorem Ok112_201.mono {eV nV caV} {R R' : Int → List (Int × Int) → Int → Prop} (H : Ok112_201 eV nV caV R) (kz : ∀ nV2 edgesV rbV, R nV2 edgesV rbV → R' nV2 edgesV rbV) : Ok112_201 eV nV caV R' :=
  fun h caB caO hp => (H h caB caO hp).mono fun _ _ ⟨nV2, edgesVA, edgesVL, edgesVC, edgesV, rbV, P, e, q⟩ => ⟨nV2, edgesVA, edgesVL, edgesVC, edgesV, rbV, P, e, kz _ _ _ q⟩

/-- tracery/maker.made, handed tracery/maker.Random$1 -/
def Ok112_202 (eV : Int) (nV : Int) (caV : Int) (cbV : Int) (ccV : Int) (R : Int → List (Int × Int) → Int → Prop) : Prop :=
  ∀ (h : Heap) (caB caO : Nat) (cbB cbO : Nat) (ccB ccO : Nat), Hp h [Ck.vob caB caO [.int .u64 caV], Ck.vob cbB cbO [.int .i64 cbV], Ck.vob ccB ccO [.int .i64 ccV]] → CallsH Try.prog 112 #[.int .i64 eV, .int .i64 nV, .func (.func 202) #[] #[.pointer (some ⟨caB, caO, none⟩), .pointer (some ⟨cbB, cbO, none⟩), .pointer (some ⟨ccB, ccO, none⟩)]] h fun v h' => ∃ (nV2 : Int) (edgesVA : Option Addr) (edgesVL edgesVC : Nat) (edgesV : List (Int × Int)) (rbV : Int), Sy h [] h' [Ck.sl eP 35 edgesVA edgesVL edgesVC edgesV] ∧ v = .tuple #[.agg #[.int .i64 nV2, .slice edgesVA edgesVL edgesVC], .int .i64 rbV] ∧ R nV2 edgesV rbV
theorem Ok112_202.mono {eV nV caV cbV ccV} {R R' : Int → List (Int × Int) → Int → Prop} (H : Ok112_202 eV nV caV cbV ccV R) (kz : ∀ nV2 edgesV rbV, R nV2 edgesV rbV → R' nV2 edgesV rbV) : Ok112_202 eV nV caV cbV ccV R' :=
  fun h caB caO cbB cbO ccB ccO hp => (H h caB caO cbB cbO ccB ccO hp).mono fun _ _ ⟨nV2, edgesVA, edgesVL, edgesVC, edgesV, rbV, P, e, q⟩ => ⟨nV2, edgesVA, edgesVL, edgesVC, edgesV, rbV, P, e, kz _ _ _ q⟩

/-- tracery/maker.Cycle -/
def S30 (n : Int) (h : Heap) (R : Value → Heap → Prop) : Prop :=
  let hv : Heap := h.push (.cells #[.int .i64 n] 3)
  let hv2 : Heap := hv.push (.cells #[.int .i64 0, .slice none 0 0] 26)
  ∃ x : Int, hcell hv2 h.size 0 = some (.int .i64 x) ∧ ∃ x2 : Int, hcell hv2 h.size 0 = some (.int .i64 x2) ∧ ∃ x3 : Int, hcell hv2 h.size 0 = some (.int .i64 x3) ∧ ∃ x4 : Int, hcell hv2 h.size 0 = some (.int .i64 x4) ∧ let hv3 : Heap := hv2.push (.cells #[.int .i64 x] 3)
  Fr [] hv2 hv3 ∧
  callX Try.prog 113 #[.int .i64 1, .slice (some (⟨hv2.size, 0, none⟩ : Addr)) 1 1, .int .i64 x2, .int .i64 x3] hv3 [hv.size] fun v hv4 =>
  ∃ r : Int, v = .int .i64 r ∧
  Fr [] hv2 hv4 ∧
  callX Try.prog 112 #[.int .i64 r, .int .i64 x4, .func (.func 120) #[] #[.pointer (some (⟨h.size, 0, none⟩ : Addr))]] hv4 [hv.size] fun v2 hv5 =>
  ∃ ra : Int, ∃ (raA : Option Addr) (raL raC : Nat), ∃ rb : Int, v2 = .tuple #[.agg #[.int .i64 ra, .slice raA raL raC], .int .i64 rb] ∧
  Fr [] hv2 hv5 ∧
  let hv6 : Heap := hset (hset hv5 hv.size 0 (.int .i64 ra)) hv.size (0 + 1) (.slice raA raL raC)
  R (.tuple #[.agg #[.int .i64 ra, .slice raA raL raC], .int .i64 rb]) hv6

theorem calls30 {h : Heap} {R : Value → Heap → Prop} (n : Int) (H : S30 n h R) : CallsH Try.prog 30 #[.int .i64 n] h R := by
  have e : S30 n h R = FX (envX [2] 14) { loops := [], joins := [], blocks := [], draws := [(1, ⟨10, false⟩)] } Try.f30 (Try.f30.body.getD .skip) [.int .i64 n] h R := by kernel_rfl
  exact calls_of_FX (envX_ok _ _) Try.func30 (by kernel_rfl) (by kernel_rfl) (by kernel_rfl) (e ▸ H)

/-- tracery/maker.Cycle -/
def Ok30 (n : Int) (R : Int → List (Int × Int) → Int → Prop) : Prop :=
  ∀ (h : Heap), Hp h [] → CallsH Try.prog 30 #[.int .i64 n] h fun v h' => ∃ (nV : Int) (edgesVA : Option Addr) (edgesVL edgesVC : Nat) (edgesV : List (Int × Int)) (rbV : Int), Sy h [] h' [Ck.sl eP 35 edgesVA edgesVL edgesVC edgesV] ∧ v = .tuple #[.agg #[.int .i64 nV, .slice edgesVA edgesVL edgesVC], .int .i64 rbV] ∧ R nV edgesV rbV
theorem Ok30.mono {n} {R R' : Int → List (Int × Int) → Int → Prop} (H : Ok30 n R) (kz : ∀ nV edgesV rbV, R nV edgesV rbV → R' nV edgesV rbV) : Ok30 n R' :=
  fun h  hp => (H h  hp).mono fun _ _ ⟨nV, edgesVA, edgesVL, edgesVC, edgesV, rbV, P, e, q⟩ => ⟨nV, edgesVA, edgesVL, edgesVC, edgesV, rbV, P, e, kz _ _ _ q⟩

def T30 (n : Int) (R : Int → List (Int × Int) → Int → Prop) : Prop :=
  Ok113 1 ([n] : List Int) n n (fun r =>
  Ok112_120 r n n (fun ra ra_2 rb =>
  R ra ra_2 rb))

theorem ok30 {n} {R : Int → List (Int × Int) → Int → Prop} (T : T30 n R) : Ok30 n R := by
  intro h  H
  have Y : Sy h [] h _ := Sy.startM H rfl
  apply calls30
  unfold S30
  unfold T30 at T
  intro hv
  have Y : Sy _ _ hv [_] := Y.newO _
  clear_value hv
  intro hv2
  have Y : Sy _ _ hv2 [_, _] := Y.junk _
  clear_value hv2
  have Y0 := Y
  have F : Fr [] hv2 hv2 := Fr.refl _ _
  refine ⟨_, Y0.cellO 0 rfl 0 rfl, ?_⟩
  refine ⟨_, Y0.cellO 0 rfl 0 rfl, ?_⟩
  refine ⟨_, Y0.cellO 0 rfl 0 rfl, ?_⟩
  refine ⟨_, Y0.cellO 0 rfl 0 rfl, ?_⟩
  intro hv3
  have Y : Sy _ _ hv3 [_, _, _] := Y.litS (E := eI) (ty := 3) ([n] : List Int) rfl (by simp [maxLen])
  have F : Fr _ _ hv3 := F.pushr _
  have fshv3 := F.size
  clear_value hv3
  refine ⟨F, ?_⟩
  refine callX_sy (T _ _ _ _ ((Y.turn 2 rfl To.slvw).pick [2] rfl).hp) (fun _ _ ⟨_, p, _⟩ => p.fr) (allc (fun h => by cases h) alln) ?_
  rintro v hv4 ⟨r, PP, rfl, T⟩
  have F : Fr _ _ hv4 := F.trans PP.fr.nil
  have fshv4 := F.size
  have Y : Sy _ _ hv4 [_, _, _] := Y.gr PP.fr
  clear PP
  refine ⟨r, rfl, ?_⟩
  refine ⟨F, ?_⟩
  refine callX_sy (T _ _ _ ((Y.turn 0 rfl To.obvob).pick [0] rfl).hp) (fun _ _ ⟨_, _, _, _, _, _, p, _⟩ => p.fr) (allc (fun h => by cases h) alln) ?_
  rintro v2 hv5 ⟨ra, raA, raL, raC, ra_2, rb, PP, rfl, T⟩
  have F : Fr _ _ hv5 := F.trans PP.fr.nil
  have fshv5 := F.size
  have Y : Sy _ _ hv5 [_, _, _, _] := Y.callV PP ⟨rfl, trivial⟩
  clear PP
  obtain rfl := Y.lenS 3 rfl
  refine ⟨ra, _, _, _, rb, rfl, ?_⟩
  refine ⟨F, ?_⟩
  intro hv6
  have Y : Sy _ _ hv6 [_, _, _, _] := ((Y.stJ 1 rfl _ _).stJ 1 rfl _ _)
  clear_value hv6
  exact ⟨_, _, _, _, _, _, Y.pick [3] rfl, rfl, T⟩

/-- tracery/maker.Wheel -/
def S31 (n : Int) (h : Heap) (R : Value → Heap → Prop) : Prop :=
  let hv : Heap := h.push (.cells #[.int .i64 n] 3)
  let hv2 : Heap := hv.push (.cells #[.int .i64 0, .slice none 0 0] 26)
  ∃ x : Int, hcell hv2 h.size 0 = some (.int .i64 x) ∧ ∃ x2 : Int, hcell hv2 h.size 0 = some (.int .i64 x2) ∧ ∃ x3 : Int, hcell hv2 h.size 0 = some (.int .i64 x3) ∧ ∃ x4 : Int, hcell hv2 h.size 0 = some (.int .i64 x4) ∧ let hv3 : Heap := hv2.push (.cells #[.int .i64 x] 3)
  Fr [] hv2 hv3 ∧
  callX Try.prog 113 #[.int .i64 3, .slice (some (⟨hv2.size, 0, none⟩ : Addr)) 1 1, .int .i64 (IntKind.i64.wrap ((if (3072 : Int) < x2 then (3072 : Int) else x2) + (1 : Int))), .int .i64 (IntKind.i64.wrap ((2 : Int) * (if (3072 : Int) < x3 then (3072 : Int) else x3)))] hv3 [hv.size] fun v hv4 =>
  ∃ r : Int, v = .int .i64 r ∧
  Fr [] hv2 hv4 ∧
  callX Try.prog 112 #[.int .i64 r, .int .i64 (IntKind.i64.wrap (x4 + (1 : Int))), .func (.func 121) #[] #[.pointer (some (⟨h.size, 0, none⟩ : Addr))]] hv4 [hv.size] fun v2 hv5 =>
  ∃ ra : Int, ∃ (raA : Option Addr) (raL raC : Nat), ∃ rb : Int, v2 = .tuple #[.agg #[.int .i64 ra, .slice raA raL raC], .int .i64 rb] ∧
  Fr [] hv2 hv5 ∧
  let hv6 : Heap := hset (hset hv5 hv.size 0 (.int .i64 ra)) hv.size (0 + 1) (.slice raA raL raC)
  R (.tuple #[.agg #[.int .i64 ra, .slice raA raL raC], .int .i64 rb]) hv6

theorem calls31 {h : Heap} {R : Value → Heap → Prop} (n : Int) (H : S31 n h R) : CallsH Try.prog 31 #[.int .i64 n] h R := by
  have e : S31 n h R = FX (envX [2] 19) { loops := [], joins := [], blocks := [], draws := [(1, ⟨15, false⟩)] } Try.f31 (Try.f31.body.getD .skip) [.int .i64 n] h R := by kernel_rfl
  exact calls_of_FX (envX_ok _ _) Try.func31 (by kernel_rfl) (by kernel_rfl) (by kernel_rfl) (e ▸ H)

/-- tracery/maker.Wheel -/
def Ok31 (n : Int) (R : Int → List (Int × Int) → Int → Prop) : Prop :=
  ∀ (h : Heap), Hp h [] → CallsH Try.prog 31 #[.int .i64 n] h fun v h' => ∃ (nV : Int) (edgesVA : Option Addr) (edgesVL edgesVC : Nat) (edgesV : List (Int × Int)) (rbV : Int), Sy h [] h' [Ck.sl eP 35 edgesVA edgesVL edgesVC edgesV] ∧ v = .tuple #[.agg #[.int .i64 nV, .slice edgesVA edgesVL edgesVC], .int .i64 rbV] ∧ R nV edgesV rbV
theorem Ok31.mono {n} {R R' : Int → List (Int × Int) → Int → Prop} (H : Ok31 n R) (kz : ∀ nV edgesV rbV, R nV edgesV rbV → R' nV edgesV rbV) : Ok31 n R' :=
  fun h  hp => (H h  hp).mono fun _ _ ⟨nV, edgesVA, edgesVL, edgesVC, edgesV, rbV, P, e, q⟩ => ⟨nV, edgesVA, edgesVL, edgesVC, edgesV, rbV, P, e, kz _ _ _ q⟩

def T31 (n : Int) (R : Int → List (Int × Int) → Int → Prop) : Prop :=
  Ok113 3 ([n] : List Int) (IntKind.i64.wrap ((if (3072 : Int) < n then (3072 : Int) else n) + (1 : Int))) (IntKind.i64.wrap ((2 : Int) * (if (3072 : Int) < n then (3072 : Int) else n))) (fun r =>
  Ok112_121 r (IntKind.i64.wrap (n + (1 : Int))) n (fun ra ra_2 rb =>
  R ra ra_2 rb))

theorem ok31 {n} {R : Int → List (Int × Int) → Int → Prop} (T : T31 n R) : Ok31 n R := by
  intro h  H
  have Y : Sy h [] h _ := Sy.startM H rfl
  apply calls31
  unfold S31
  unfold T31 at T
  intro hv
  have Y : Sy _ _ hv [_] := Y.newO _
  clear_value hv
  intro hv2
  have Y : Sy _ _ hv2 [_, _] := Y.junk _
  clear_value hv2
  have Y0 := Y
  have F : Fr [] hv2 hv2 := Fr.refl _ _
  refine ⟨_, Y0.cellO 0 rfl 0 rfl, ?_⟩
  refine ⟨_, Y0.cellO 0 rfl 0 rfl, ?_⟩
  refine ⟨_, Y0.cellO 0 rfl 0 rfl, ?_⟩
  refine ⟨_, Y0.cellO 0 rfl 0 rfl, ?_⟩
  intro hv3
  have Y : Sy _ _ hv3 [_, _, _] := Y.litS (E := eI) (ty := 3) ([n] : List Int) rfl (by simp [maxLen])
  have F : Fr _ _ hv3 := F.pushr _
  have fshv3 := F.size
  clear_value hv3
  refine ⟨F, ?_⟩
  refine callX_sy (T _ _ _ _ ((Y.turn 2 rfl To.slvw).pick [2] rfl).hp) (fun _ _ ⟨_, p, _⟩ => p.fr) (allc (fun h => by cases h) alln) ?_
  rintro v hv4 ⟨r, PP, rfl, T⟩
  have F : Fr _ _ hv4 := F.trans PP.fr.nil
  have fshv4 := F.size
  have Y : Sy _ _ hv4 [_, _, _] := Y.gr PP.fr
  clear PP
  refine ⟨r, rfl, ?_⟩
  refine ⟨F, ?_⟩
  refine callX_sy (T _ _ _ ((Y.turn 0 rfl To.obvob).pick [0] rfl).hp) (fun _ _ ⟨_, _, _, _, _, _, p, _⟩ => p.fr) (allc (fun h => by cases h) alln) ?_
  rintro v2 hv5 ⟨ra, raA, raL, raC, ra_2, rb, PP, rfl, T⟩
  have F : Fr _ _ hv5 := F.trans PP.fr.nil
  have fshv5 := F.size
  have Y : Sy _ _ hv5 [_, _, _, _] := Y.callV PP ⟨rfl, trivial⟩
  clear PP
  obtain rfl := Y.lenS 3 rfl
  refine ⟨ra, _, _, _, rb, rfl, ?_⟩
  refine ⟨F, ?_⟩
  intro hv6
  have Y : Sy _ _ hv6 [_, _, _, _] := ((Y.stJ 1 rfl _ _).stJ 1 rfl _ _)
  clear_value hv6
  exact ⟨_, _, _, _, _, _, Y.pick [3] rfl, rfl, T⟩

/-- tracery/maker.Prism -/
def S32 (n : Int) (h : Heap) (R : Value → Heap → Prop) : Prop :=
  let hv : Heap := h.push (.cells #[.int .i64 n] 3)
  let hv2 : Heap := hv.push (.cells #[.int .i64 0, .slice none 0 0] 26)
  ∃ x : Int, hcell hv2 h.size 0 = some (.int .i64 x) ∧ ∃ x2 : Int, hcell hv2 h.size 0 = some (.int .i64 x2) ∧ let hv3 : Heap := hv2.push (.cells #[.int .i64 x2] 3)
  callX Try.prog 113 #[.int .i64 3, .slice (some (⟨hv2.size, 0, none⟩ : Addr)) 1 1, .int .i64 (IntKind.i64.wrap ((2 : Int) * (if (3072 : Int) < x then (3072 : Int) else x))), .int .i64 (IntKind.i64.wrap ((3 : Int) * (if (3072 : Int) < x then (3072 : Int) else x)))] hv3 [hv.size] fun v hv4 =>
  ∃ r : Int, v = .int .i64 r ∧
  callX Try.prog 112 #[.int .i64 r, .int .i64 (IntKind.i64.wrap ((2 : Int) * (if (3072 : Int) < x then (3072 : Int) else x))), .func (.func 122) #[] #[.pointer (some (⟨h.size, 0, none⟩ : Addr))]] hv4 [hv.size] fun v2 hv5 =>
  ∃ ra : Int, ∃ (raA : Option Addr) (raL raC : Nat), ∃ rb : Int, v2 = .tuple #[.agg #[.int .i64 ra, .slice raA raL raC], .int .i64 rb] ∧
  let hv6 : Heap := hset (hset hv5 hv.size 0 (.int .i64 ra)) hv.size (0 + 1) (.slice raA raL raC)
  R (.tuple #[.agg #[.int .i64 ra, .slice raA raL raC], .int .i64 rb]) hv6

theorem calls32 {h : Heap} {R : Value → Heap → Prop} (n : Int) (H : S32 n h R) : CallsH Try.prog 32 #[.int .i64 n] h R := by
  have e : S32 n h R = FX (envX [2] 20) { loops := [], joins := [], blocks := [], draws := [] } Try.f32 (Try.f32.body.getD .skip) [.int .i64 n] h R := by kernel_rfl
  exact calls_of_FX (envX_ok _ _) Try.func32 (by kernel_rfl) (by kernel_rfl) (by kernel_rfl) (e ▸ H)

/-- tracery/maker.Prism -/
def Ok32 (n : Int) (R : Int → List (Int × Int) → Int → Prop) : Prop :=
  ∀ (h : Heap), Hp h [] → CallsH Try.prog 32 #[.int .i64 n] h fun v h' => ∃ (nV : Int) (edgesVA : Option Addr) (edgesVL edgesVC : Nat) (edgesV : List (Int × Int)) (rbV : Int), Sy h [] h' [Ck.sl eP 35 edgesVA edgesVL edgesVC edgesV] ∧ v = .tuple #[.agg #[.int .i64 nV, .slice edgesVA edgesVL edgesVC], .int .i64 rbV] ∧ R nV edgesV rbV
theorem Ok32.mono {n} {R R' : Int → List (Int × Int) → Int → Prop} (H : Ok32 n R) (kz : ∀ nV edgesV rbV, R nV edgesV rbV → R' nV edgesV rbV) : Ok32 n R' :=
  fun h  hp => (H h  hp).mono fun _ _ ⟨nV, edgesVA, edgesVL, edgesVC, edgesV, rbV, P, e, q⟩ => ⟨nV, edgesVA, edgesVL, edgesVC, edgesV, rbV, P, e, kz _ _ _ q⟩

def T32 (n : Int) (R : Int → List (Int × Int) → Int → Prop) : Prop :=
  Ok113 3 ([n] : List Int) (IntKind.i64.wrap ((2 : Int) * (if (3072 : Int) < n then (3072 : Int) else n))) (IntKind.i64.wrap ((3 : Int) * (if (3072 : Int) < n then (3072 : Int) else n))) (fun r =>
  Ok112_122 r (IntKind.i64.wrap ((2 : Int) * (if (3072 : Int) < n then (3072 : Int) else n))) n (fun ra ra_2 rb =>
  R ra ra_2 rb))

theorem ok32 {n} {R : Int → List (Int × Int) → Int → Prop} (T : T32 n R) : Ok32 n R := by
  intro h  H
  have Y : Sy h [] h _ := Sy.startM H rfl
  apply calls32
  unfold S32
  unfold T32 at T
  intro hv
  have Y : Sy _ _ hv [_] := Y.newO _
  clear_value hv
  intro hv2
  have Y : Sy _ _ hv2 [_, _] := Y.junk _
  clear_value hv2
  refine ⟨_, Y.cellO 0 rfl 0 rfl, ?_⟩
  refine ⟨_, Y.cellO 0 rfl 0 rfl, ?_⟩
  intro hv3
  have Y : Sy _ _ hv3 [_, _, _] := Y.litS (E := eI) (ty := 3) ([n] : List Int) rfl (by simp [maxLen])
  clear_value hv3
  refine callX_sy (T _ _ _ _ ((Y.turn 2 rfl To.slvw).pick [2] rfl).hp) (fun _ _ ⟨_, p, _⟩ => p.fr) (allc (fun h => by cases h) alln) ?_
  rintro v hv4 ⟨r, PP, rfl, T⟩
  have Y : Sy _ _ hv4 [_, _, _] := Y.gr PP.fr
  clear PP
  refine ⟨r, rfl, ?_⟩
  refine callX_sy (T _ _ _ ((Y.turn 0 rfl To.obvob).pick [0] rfl).hp) (fun _ _ ⟨_, _, _, _, _, _, p, _⟩ => p.fr) (allc (fun h => by cases h) alln) ?_
  rintro v2 hv5 ⟨ra, raA, raL, raC, ra_2, rb, PP, rfl, T⟩
  have Y : Sy _ _ hv5 [_, _, _, _] := Y.callV PP ⟨rfl, trivial⟩
  clear PP
  obtain rfl := Y.lenS 3 rfl
  refine ⟨ra, _, _, _, rb, rfl, ?_⟩
  intro hv6
  have Y : Sy _ _ hv6 [_, _, _, _] := ((Y.stJ 1 rfl _ _).stJ 1 rfl _ _)
  clear_value hv6
  exact ⟨_, _, _, _, _, _, Y.pick [3] rfl, rfl, T⟩

/-- tracery/maker.Complete -/
def S33 (n : Int) (h : Heap) (R : Value → Heap → Prop) : Prop :=
  let hv : Heap := h.push (.cells #[.int .i64 n] 3)
  let hv2 : Heap := hv.push (.cells #[.int .i64 0, .slice none 0 0] 26)
  ∃ x : Int, hcell hv2 h.size 0 = some (.int .i64 x) ∧ ∃ Jv : List Value → Heap → Prop, -- join 6 ['m']
  ( cnd (decide (x ≤ (3072 : Int)))
     (∃ x2 : Int, hcell hv2 h.size 0 = some (.int .i64 x2) ∧ ∃ x3 : Int, hcell hv2 h.size 0 = some (.int .i64 x3) ∧ (2 : Int) ≠ 0 ∧ Jv [.int .i64 (IntKind.i64.wrap (Int.tdiv (IntKind.i64.wrap (x2 * (IntKind.i64.wrap (x3 - (1 : Int))))) (2 : Int)))] hv2)
     (Jv [.int .i64 0] hv2)) ∧
  ∀ m : Int, ∀ hv3, Jv [.int .i64 m] hv3 →
  ∃ x4 : Int, hcell hv3 h.size 0 = some (.int .i64 x4) ∧ ∃ x5 : Int, hcell hv3 h.size 0 = some (.int .i64 x5) ∧ ∃ x6 : Int, hcell hv3 h.size 0 = some (.int .i64 x6) ∧ let hv4 : Heap := hv3.push (.cells #[.int .i64 x4] 3)
  Fr [] hv3 hv4 ∧
  callX Try.prog 113 #[.int .i64 1, .slice (some (⟨hv3.size, 0, none⟩ : Addr)) 1 1, .int .i64 x5, .int .i64 m] hv4 [hv.size] fun v hv5 =>
  ∃ r : Int, v = .int .i64 r ∧
  Fr [] hv3 hv5 ∧
  callX Try.prog 112 #[.int .i64 r, .int .i64 x6, .func (.func 123) #[] #[.pointer (some (⟨h.size, 0, none⟩ : Addr))]] hv5 [hv.size] fun v2 hv6 =>
  ∃ ra : Int, ∃ (raA : Option Addr) (raL raC : Nat), ∃ rb : Int, v2 = .tuple #[.agg #[.int .i64 ra, .slice raA raL raC], .int .i64 rb] ∧
  Fr [] hv3 hv6 ∧
  let hv7 : Heap := hset (hset hv6 hv.size 0 (.int .i64 ra)) hv.size (0 + 1) (.slice raA raL raC)
  R (.tuple #[.agg #[.int .i64 ra, .slice raA raL raC], .int .i64 rb]) hv7

theorem calls33 {h : Heap} {R : Value → Heap → Prop} (n : Int) (H : S33 n h R) : CallsH Try.prog 33 #[.int .i64 n] h R := by
  have e : S33 n h R = FX (envX [2] 22) { loops := [], joins := [(6, ⟨[1, 2], [4], [2], []⟩)], blocks := [], draws := [(4, ⟨10, false⟩)] } Try.f33 (Try.f33.body.getD .skip) [.int .i64 n] h R := by kernel_rfl
  exact calls_of_FX (envX_ok _ _) Try.func33 (by kernel_rfl) (by kernel_rfl) (by kernel_rfl) (e ▸ H)

/-- tracery/maker.Complete -/
def Ok33 (n : Int) (R : Int → List (Int × Int) → Int → Prop) : Prop :=
  ∀ (h : Heap), Hp h [] → CallsH Try.prog 33 #[.int .i64 n] h fun v h' => ∃ (nV : Int) (edgesVA : Option Addr) (edgesVL edgesVC : Nat) (edgesV : List (Int × Int)) (rbV : Int), Sy h [] h' [Ck.sl eP 35 edgesVA edgesVL edgesVC edgesV] ∧ v = .tuple #[.agg #[.int .i64 nV, .slice edgesVA edgesVL edgesVC], .int .i64 rbV] ∧ R nV edgesV rbV
theorem Ok33.mono {n} {R R' : Int → List (Int × Int) → Int → Prop} (H : Ok33 n R) (kz : ∀ nV edgesV rbV, R nV edgesV rbV → R' nV edgesV rbV) : Ok33 n R' :=
  fun h  hp => (H h  hp).mono fun _ _ ⟨nV, edgesVA, edgesVL, edgesVC, edgesV, rbV, P, e, q⟩ => ⟨nV, edgesVA, edgesVL, edgesVC, edgesV, rbV, P, e, kz _ _ _ q⟩

def T33 (n : Int) (R : Int → List (Int × Int) → Int → Prop) : Prop :=
  ∃ Jv : Int → Prop,
  ( cnd (decide (n ≤ (3072 : Int)))
     ((2 : Int) ≠ 0 ∧ Jv (IntKind.i64.wrap (Int.tdiv (IntKind.i64.wrap (n * (IntKind.i64.wrap (n - (1 : Int))))) (2 : Int))))
     (Jv 0)) ∧
  ∀ m : Int, Jv m →
  Ok113 1 ([n] : List Int) n m (fun r =>
  Ok112_123 r n n (fun ra ra_2 rb =>
  R ra ra_2 rb))

theorem ok33 {n} {R : Int → List (Int × Int) → Int → Prop} (T : T33 n R) : Ok33 n R := by
  intro h  H
  have Y : Sy h [] h _ := Sy.startM H rfl
  apply calls33
  unfold S33
  unfold T33 at T
  intro hv
  have Y : Sy _ _ hv [_] := Y.newO _
  clear_value hv
  intro hv2
  have Y : Sy _ _ hv2 [_, _] := Y.junk _
  clear_value hv2
  refine ⟨_, Y.cellO 0 rfl 0 rfl, ?_⟩
  obtain ⟨Jv, T0, T1⟩ := T
  obtain ⟨B, hB, _⟩ := Y.cut [] [0, 1] rfl
  refine ⟨fun lz h' => ∃ (m : Int), lz = [.int .i64 m] ∧ Sy h [] h' ([] ++ B) ∧ Jv m, ?_, ?_⟩
  · subst hB
    replace T := T0
    clear T0 T1
    refine cnd_imp T (fun T => ?_) (fun T => ?_)
    · refine ⟨_, Y.cellO 0 rfl 0 rfl, ?_⟩
      refine ⟨_, Y.cellO 0 rfl 0 rfl, ?_⟩
      obtain ⟨q, T⟩ := T
      refine ⟨q, ?_⟩
      exact ⟨_, rfl, Y.pick [0, 1] rfl, T⟩
    · exact ⟨_, rfl, Y.pick [0, 1] rfl, T⟩
  · subst hB
    clear T0 Y
    rintro m hv3 ⟨m, e, Y, T⟩
    cases e
    replace T := T1 m T
    have Y : Sy _ _ _ [_, _] := Y
    have Y0 := Y
    have F : Fr [] hv3 hv3 := Fr.refl _ _
    refine ⟨_, Y0.cellO 0 rfl 0 rfl, ?_⟩
    refine ⟨_, Y0.cellO 0 rfl 0 rfl, ?_⟩
    refine ⟨_, Y0.cellO 0 rfl 0 rfl, ?_⟩
    intro hv4
    have Y : Sy _ _ hv4 [_, _, _] := Y.litS (E := eI) (ty := 3) ([n] : List Int) rfl (by simp [maxLen])
    have F : Fr _ _ hv4 := F.pushr _
    have fshv4 := F.size
    clear_value hv4
    refine ⟨F, ?_⟩
    refine callX_sy (T _ _ _ _ ((Y.turn 2 rfl To.slvw).pick [2] rfl).hp) (fun _ _ ⟨_, p, _⟩ => p.fr) (allc (fun h => by cases h) alln) ?_
    rintro v hv5 ⟨r, PP, rfl, T⟩
    have F : Fr _ _ hv5 := F.trans PP.fr.nil
    have fshv5 := F.size
    have Y : Sy _ _ hv5 [_, _, _] := Y.gr PP.fr
    clear PP
    refine ⟨r, rfl, ?_⟩
    refine ⟨F, ?_⟩
    refine callX_sy (T _ _ _ ((Y.turn 0 rfl To.obvob).pick [0] rfl).hp) (fun _ _ ⟨_, _, _, _, _, _, p, _⟩ => p.fr) (allc (fun h => by cases h) alln) ?_
    rintro v2 hv6 ⟨ra, raA, raL, raC, ra_2, rb, PP, rfl, T⟩
    have F : Fr _ _ hv6 := F.trans PP.fr.nil
    have fshv6 := F.size
    have Y : Sy _ _ hv6 [_, _, _, _] := Y.callV PP ⟨rfl, trivial⟩
    clear PP
    obtain rfl := Y.lenS 3 rfl
    refine ⟨ra, _, _, _, rb, rfl, ?_⟩
    refine ⟨F, ?_⟩
    intro hv7
    have Y : Sy _ _ hv7 [_, _, _, _] := ((Y.stJ 1 rfl _ _).stJ 1 rfl _ _)
    clear_value hv7
    exact ⟨_, _, _, _, _, _, Y.pick [3] rfl, rfl, T⟩

/-- tracery/maker.Two -/
def S34 (a : Int) (b : Int) (h : Heap) (R : Value → Heap → Prop) : Prop :=
  let hv : Heap := h.push (.cells #[.int .i64 a] 3)
  let hv2 : Heap := hv.push (.cells #[.int .i64 b] 3)
  let hv3 : Heap := hv2.push (.cells #[.int .i64 0, .slice none 0 0] 26)
  let K := fun (n2 : Int) (hv5 : Heap) =>
    (let K2 := fun (x9 : Int) (xA : Option Addr) (xL xC : Nat) (x10 : Int) (hv14 : Heap) =>
      (let hv15 : Heap := hset (hset hv14 hv2.size 0 (.int .i64 x9)) hv2.size (0 + 1) (.slice xA xL xC)
      R (.tuple #[.agg #[.int .i64 x9, .slice xA xL xC], .int .i64 x10]) hv15)
    ∃ x5 : Int, hcell hv5 h.size 0 = some (.int .i64 x5) ∧ ∃ x6 : Int, hcell hv5 hv.size 0 = some (.int .i64 x6) ∧ ∃ x7 : Int, hcell hv5 h.size 0 = some (.int .i64 x7) ∧ ∃ x8 : Int, hcell hv5 hv.size 0 = some (.int .i64 x8) ∧ (let hv6 : Heap := hv5.push (.cells #[.int .i64 x5, .int .i64 x6] 3)
    Fr [] hv5 hv6 ∧
    callX Try.prog 124 #[.int .i64 x7, .int .i64 x8] hv6 [hv2.size] fun v hv7 =>
    ∃ r : Int, v = .int .i64 r ∧
    Fr [] hv5 hv7 ∧
    callX Try.prog 113 #[.int .i64 1, .slice (some (⟨hv5.size, 0, none⟩ : Addr)) 2 2, .int .i64 n2, .int .i64 r] hv7 [hv2.size] fun v2 hv8 =>
    ∃ r2 : Int, v2 = .int .i64 r2 ∧
    Fr [] hv5 hv8 ∧
    callX Try.prog 112 #[.int .i64 r2, .int .i64 n2, .func (.func 125) #[] #[.pointer (some (⟨h.size, 0, none⟩ : Addr)), .pointer (some (⟨hv.size, 0, none⟩ : Addr))]] hv8 [hv2.size] fun v3 hv9 =>
    ∃ ra : Int, ∃ (raA : Option Addr) (raL raC : Nat), ∃ rb : Int, v3 = .tuple #[.agg #[.int .i64 ra, .slice raA raL raC], .int .i64 rb] ∧
    Fr [] hv5 hv9 ∧
    K2 ra raA raL raC rb hv9)
    ∧ ( callX Try.prog 124 #[.int .i64 x7, .int .i64 x8] hv5 [hv2.size] fun v4 hv10 =>
     ∃ r3 : Int, v4 = .int .i64 r3 ∧
     Fr [] hv5 hv10 ∧
     let hv11 : Heap := hv10.push (.cells #[.int .i64 x5, .int .i64 x6] 3)
     Fr [] hv5 hv11 ∧
     callX Try.prog 113 #[.int .i64 1, .slice (some (⟨hv10.size, 0, none⟩ : Addr)) 2 2, .int .i64 n2, .int .i64 r3] hv11 [hv2.size] fun v5 hv12 =>
     ∃ r4 : Int, v5 = .int .i64 r4 ∧
     Fr [] hv5 hv12 ∧
     callX Try.prog 112 #[.int .i64 r4, .int .i64 n2, .func (.func 125) #[] #[.pointer (some (⟨h.size, 0, none⟩ : Addr)), .pointer (some (⟨hv.size, 0, none⟩ : Addr))]] hv12 [hv2.size] fun v6 hv13 =>
     ∃ ra2 : Int, ∃ (raA2 : Option Addr) (raL2 raC2 : Nat), ∃ rb2 : Int, v6 = .tuple #[.agg #[.int .i64 ra2, .slice raA2 raL2 raC2], .int .i64 rb2] ∧
     Fr [] hv5 hv13 ∧
     K2 ra2 raA2 raL2 raC2 rb2 hv13))
  ∃ x : Int, hcell hv3 h.size 0 = some (.int .i64 x) ∧ cnd (decide (x ≤ (3072 : Int)))
    (∃ x2 : Int, hcell hv3 hv.size 0 = some (.int .i64 x2) ∧ ∃ Jv : List Value → Heap → Prop, -- join 12 ['n']
    ( cnd (decide (x2 ≤ (3072 : Int)))
       (∃ x3 : Int, hcell hv3 h.size 0 = some (.int .i64 x3) ∧ ∃ x4 : Int, hcell hv3 hv.size 0 = some (.int .i64 x4) ∧ Jv [.int .i64 (IntKind.i64.wrap (x3 + x4))] hv3)
       (Jv [.int .i64 0] hv3)) ∧
    ∀ n : Int, ∀ hv4, Jv [.int .i64 n] hv4 →
    K n hv4)
    (K 0 hv3)

theorem calls34 {h : Heap} {R : Value → Heap → Prop} (a : Int) (b : Int) (H : S34 a b h R) : CallsH Try.prog 34 #[.int .i64 a, .int .i64 b] h R := by
  have e : S34 a b h R = FX (envX [4] 29) { loops := [], joins := [(12, ⟨[2, 3, 4], [6], [4], []⟩)], blocks := [], draws := [(4, ⟨13, false⟩)] } Try.f34 (Try.f34.body.getD .skip) [.int .i64 a, .int .i64 b] h R := by kernel_rfl
  exact calls_of_FX (envX_ok _ _) Try.func34 (by kernel_rfl) (by kernel_rfl) (by kernel_rfl) (e ▸ H)

/-- tracery/maker.Two -/
def Ok34 (a : Int) (b : Int) (R : Int → List (Int × Int) → Int → Prop) : Prop :=
  ∀ (h : Heap), Hp h [] → CallsH Try.prog 34 #[.int .i64 a, .int .i64 b] h fun v h' => ∃ (nV : Int) (edgesVA : Option Addr) (edgesVL edgesVC : Nat) (edgesV : List (Int × Int)) (rbV : Int), Sy h [] h' [Ck.sl eP 35 edgesVA edgesVL edgesVC edgesV] ∧ v = .tuple #[.agg #[.int .i64 nV, .slice edgesVA edgesVL edgesVC], .int .i64 rbV] ∧ R nV edgesV rbV
theorem Ok34.mono {a b} {R R' : Int → List (Int × Int) → Int → Prop} (H : Ok34 a b R) (kz : ∀ nV edgesV rbV, R nV edgesV rbV → R' nV edgesV rbV) : Ok34 a b R' :=
  fun h  hp => (H h  hp).mono fun _ _ ⟨nV, edgesVA, edgesVL, edgesVC, edgesV, rbV, P, e, q⟩ => ⟨nV, edgesVA, edgesVL, edgesVC, edgesV, rbV, P, e, kz _ _ _ q⟩

def T34 (a : Int) (b : Int) (R : Int → List (Int × Int) → Int → Prop) : Prop :=
  ∃ Jv_2 : Int → Prop,
  ( cnd (decide (a ≤ (3072 : Int)))
     (∃ Jv : Int → Prop,
     ( cnd (decide (b ≤ (3072 : Int)))
        (Jv (IntKind.i64.wrap (a + b)))
        (Jv 0)) ∧
     ∀ n : Int, Jv n →
     Jv_2 n)
     (Jv_2 0)) ∧
  ∀ n2 : Int, Jv_2 n2 →
  ∃ Jv_3 : Int → List (Int × Int) → Int → Prop,
  ( Ok124 a b (fun r =>
   Ok113 1 ([a, b] : List Int) n2 r (fun r2 =>
   Ok112_125 r2 n2 a b (fun ra ra_2 rb =>
   Jv_3 ra ra_2 rb)))) ∧
  ∀ x9 : Int, ∀ x_2 : List (Int × Int), ∀ x10 : Int, Jv_3 x9 x_2 x10 →
  R x9 x_2 x10

theorem ok34 {a b} {R : Int → List (Int × Int) → Int → Prop} (T : T34 a b R) : Ok34 a b R := by
  intro h  H
  have Y : Sy h [] h _ := Sy.startM H rfl
  apply calls34
  unfold S34
  unfold T34 at T
  intro hv
  have Y : Sy _ _ hv [_] := Y.newO _
  clear_value hv
  intro hv2
  have Y : Sy _ _ hv2 [_, _] := Y.newO _
  clear_value hv2
  intro hv3
  have Y : Sy _ _ hv3 [_, _, _] := Y.junk _
  clear_value hv3
  obtain ⟨Jv_2, T0, T1⟩ := T
  obtain ⟨B, hB, _⟩ := Y.cut [] [0, 1, 2] rfl
  intro K
  have hK : ∀ (n2 : Int) (hv5 : Heap), (Sy h [] hv5 ([] ++ B) ∧ Jv_2 n2) → K n2 hv5 := by
    subst hB
    clear T0 Y
    rintro n2 hv5 ⟨Y, T⟩
    replace T := T1 n2 T
    have Y : Sy _ _ _ [_, _, _] := Y
    unfold K
    obtain ⟨Jv_3, T0, T1⟩ := T
    obtain ⟨B_2, hB_2, _⟩ := Y.cut [] [0, 1, 2] rfl
    intro K2
    have hK2 : ∀ (x9 : Int) (xA : Option Addr) (xL xC : Nat) (x10 : Int) (hv14 : Heap), (∃ (x_2 : List (Int × Int)), Sy h [] hv14 ([Ck.sl eP 35 xA xL xC x_2] ++ B_2) ∧ Jv_3 x9 x_2 x10) → K2 x9 xA xL xC x10 hv14 := by
      subst hB_2
      clear T0 Y
      rintro x9 xA xL xC x10 hv14 ⟨x_2, Y, T⟩
      obtain rfl := Y.lenS 0 rfl
      replace T := T1 x9 x_2 x10 T
      have Y : Sy _ _ _ [_, _, _, _] := Y
      unfold K2
      intro hv15
      have Y : Sy _ _ hv15 [_, _, _, _] := ((Y.stJ 3 rfl _ _).stJ 3 rfl _ _)
      clear_value hv15
      exact ⟨_, _, _, _, _, _, Y.pick [0] rfl, rfl, T⟩
    subst hB_2
    replace T := T0
    clear T0 T1
    have Y0 := Y
    have F : Fr [] hv5 hv5 := Fr.refl _ _
    refine ⟨_, Y0.cellO 0 rfl 0 rfl, ?_⟩
    refine ⟨_, Y0.cellO 1 rfl 0 rfl, ?_⟩
    refine ⟨_, Y0.cellO 0 rfl 0 rfl, ?_⟩
    refine ⟨_, Y0.cellO 1 rfl 0 rfl, ?_⟩
    refine ⟨?_, ?_⟩
    · intro hv6
      have Y : Sy _ _ hv6 [_, _, _, _] := Y.litS (E := eI) (ty := 3) ([a, b] : List Int) rfl (by simp [maxLen])
      have F : Fr _ _ hv6 := F.pushr _
      have fshv6 := F.size
      clear_value hv6
      refine ⟨F, ?_⟩
      refine callX_sy (T _ (Hp.nil _)) (fun _ _ ⟨_, p, _⟩ => p.fr) (allc (fun h => by cases h) alln) ?_
      rintro v hv7 ⟨r, PP, rfl, T⟩
      have F : Fr _ _ hv7 := F.trans PP.fr.nil
      have fshv7 := F.size
      have Y : Sy _ _ hv7 [_, _, _, _] := Y.gr PP.fr
      clear PP
      refine ⟨r, rfl, ?_⟩
      refine ⟨F, ?_⟩
      refine callX_sy (T _ _ _ _ ((Y.turn 3 rfl To.slvw).pick [3] rfl).hp) (fun _ _ ⟨_, p, _⟩ => p.fr) (allc (fun h => by cases h) alln) ?_
      rintro v2 hv8 ⟨r2, PP, rfl, T⟩
      have F : Fr _ _ hv8 := F.trans PP.fr.nil
      have fshv8 := F.size
      have Y : Sy _ _ hv8 [_, _, _, _] := Y.gr PP.fr
      clear PP
      refine ⟨r2, rfl, ?_⟩
      refine ⟨F, ?_⟩
      refine callX_sy (T _ _ _ _ _ (((Y.turn 0 rfl To.obvob).turn 1 rfl To.obvob).pick [0, 1] rfl).hp) (fun _ _ ⟨_, _, _, _, _, _, p, _⟩ => p.fr) (allc (fun h => by cases h) alln) ?_
      rintro v3 hv9 ⟨ra, raA, raL, raC, ra_2, rb, PP, rfl, T⟩
      have F : Fr _ _ hv9 := F.trans PP.fr.nil
      have fshv9 := F.size
      have Y : Sy _ _ hv9 [_, _, _, _, _] := Y.callV PP ⟨rfl, trivial⟩
      clear PP
      obtain rfl := Y.lenS 4 rfl
      refine ⟨ra, _, _, _, rb, rfl, ?_⟩
      refine ⟨F, ?_⟩
      exact hK2 _ _ _ _ _ _ ⟨_, Y.pick [4, 0, 1, 2] rfl, T⟩
    · refine callX_sy (T _ (Hp.nil _)) (fun _ _ ⟨_, p, _⟩ => p.fr) (allc (fun h => by cases h) alln) ?_
      rintro v4 hv10 ⟨r3, PP, rfl, T⟩
      have F : Fr _ _ hv10 := F.trans PP.fr.nil
      have fshv10 := F.size
      have Y : Sy _ _ hv10 [_, _, _] := Y.gr PP.fr
      clear PP
      refine ⟨r3, rfl, ?_⟩
      refine ⟨F, ?_⟩
      intro hv11
      have Y : Sy _ _ hv11 [_, _, _, _] := Y.litS (E := eI) (ty := 3) ([a, b] : List Int) rfl (by simp [maxLen])
      have F : Fr _ _ hv11 := F.pushr _
      have fshv11 := F.size
      clear_value hv11
      refine ⟨F, ?_⟩
      refine callX_sy (T _ _ _ _ ((Y.turn 3 rfl To.slvw).pick [3] rfl).hp) (fun _ _ ⟨_, p, _⟩ => p.fr) (allc (fun h => by cases h) alln) ?_
      rintro v5 hv12 ⟨r4, PP, rfl, T⟩
      have F : Fr _ _ hv12 := F.trans PP.fr.nil
      have fshv12 := F.size
      have Y : Sy _ _ hv12 [_, _, _, _] := Y.gr PP.fr
      clear PP
      refine ⟨r4, rfl, ?_⟩
      refine ⟨F, ?_⟩
      refine callX_sy (T _ _ _ _ _ (((Y.turn 0 rfl To.obvob).turn 1 rfl To.obvob).pick [0, 1] rfl).hp) (fun _ _ ⟨_, _, _, _, _, _, p, _⟩ => p.fr) (allc (fun h => by cases h) alln) ?_
      rintro v6 hv13 ⟨ra2, raA2, raL2, raC2, ra_3, rb2, PP, rfl, T⟩
      have F : Fr _ _ hv13 := F.trans PP.fr.nil
      have fshv13 := F.size
      have Y : Sy _ _ hv13 [_, _, _, _, _] := Y.callV PP ⟨rfl, trivial⟩
      clear PP
      obtain rfl := Y.lenS 4 rfl
      refine ⟨ra2, _, _, _, rb2, rfl, ?_⟩
      refine ⟨F, ?_⟩
      exact hK2 _ _ _ _ _ _ ⟨_, Y.pick [4, 0, 1, 2] rfl, T⟩
  subst hB
  replace T := T0
  clear T0 T1
  refine ⟨_, Y.cellO 0 rfl 0 rfl, ?_⟩
  refine cnd_imp T (fun T => ?_) (fun T => ?_)
  · refine ⟨_, Y.cellO 1 rfl 0 rfl, ?_⟩
    obtain ⟨Jv, T0, T1⟩ := T
    obtain ⟨B_3, hB_3, _⟩ := Y.cut [] [0, 1, 2] rfl
    refine ⟨fun lz h' => ∃ (n : Int), lz = [.int .i64 n] ∧ Sy h [] h' ([] ++ B_3) ∧ Jv n, ?_, ?_⟩
    · subst hB_3
      replace T := T0
      clear T0 T1
      refine cnd_imp T (fun T => ?_) (fun T => ?_)
      · refine ⟨_, Y.cellO 0 rfl 0 rfl, ?_⟩
        refine ⟨_, Y.cellO 1 rfl 0 rfl, ?_⟩
        exact ⟨_, rfl, Y.pick [0, 1, 2] rfl, T⟩
      · exact ⟨_, rfl, Y.pick [0, 1, 2] rfl, T⟩
    · subst hB_3
      clear T0 Y
      rintro n hv4 ⟨n, e, Y, T⟩
      cases e
      replace T := T1 n T
      have Y : Sy _ _ _ [_, _, _] := Y
      exact hK _ _ ⟨Y.pick [0, 1, 2] rfl, T⟩
  · exact hK _ _ ⟨Y.pick [0, 1, 2] rfl, T⟩

/-- tracery/maker.Grid -/
def S35 (w : Int) (hv : Int) (h : Heap) (R : Value → Heap → Prop) : Prop :=
  let hv2 : Heap := h.push (.cells #[.int .i64 w] 3)
  let hv3 : Heap := hv2.push (.cells #[.int .i64 hv] 3)
  let hv4 : Heap := hv3.push (.cells #[.int .i64 0, .slice none 0 0] 26)
  ∃ x : Int, hcell hv4 h.size 0 = some (.int .i64 x) ∧ ∃ x2 : Int, hcell hv4 hv2.size 0 = some (.int .i64 x2) ∧ callX Try.prog 124 #[.int .i64 x, .int .i64 x2] hv4 [hv3.size] fun v hv5 =>
  ∃ r : Int, v = .int .i64 r ∧
  ∃ x3 : Int, hcell hv5 h.size 0 = some (.int .i64 x3) ∧ ∃ x4 : Int, hcell hv5 hv2.size 0 = some (.int .i64 x4) ∧ ∃ x5 : Int, hcell hv5 h.size 0 = some (.int .i64 x5) ∧ ∃ x6 : Int, hcell hv5 hv2.size 0 = some (.int .i64 x6) ∧ callX Try.prog 124 #[.int .i64 (IntKind.i64.wrap (x3 - (1 : Int))), .int .i64 x4] hv5 [hv3.size] fun v2 hv6 =>
  ∃ r2 : Int, v2 = .int .i64 r2 ∧
  Fr [] hv5 hv6 ∧
  callX Try.prog 124 #[.int .i64 x5, .int .i64 (IntKind.i64.wrap (x6 - (1 : Int)))] hv6 [hv3.size] fun v3 hv7 =>
  ∃ r3 : Int, v3 = .int .i64 r3 ∧
  Fr [] hv5 hv7 ∧
  ∃ x7 : Int, hcell hv7 h.size 0 = some (.int .i64 x7) ∧ ∃ x8 : Int, hcell hv7 hv2.size 0 = some (.int .i64 x8) ∧ let hv8 : Heap := hv7.push (.cells #[.int .i64 x7, .int .i64 x8] 3)
  callX Try.prog 113 #[.int .i64 1, .slice (some (⟨hv7.size, 0, none⟩ : Addr)) 2 2, .int .i64 r, .int .i64 (IntKind.i64.wrap (r2 + r3))] hv8 [hv3.size] fun v4 hv9 =>
  ∃ r4 : Int, v4 = .int .i64 r4 ∧
  callX Try.prog 112 #[.int .i64 r4, .int .i64 r, .func (.func 126) #[] #[.pointer (some (⟨hv2.size, 0, none⟩ : Addr)), .pointer (some (⟨h.size, 0, none⟩ : Addr))]] hv9 [hv3.size] fun v5 hv10 =>
  ∃ ra : Int, ∃ (raA : Option Addr) (raL raC : Nat), ∃ rb : Int, v5 = .tuple #[.agg #[.int .i64 ra, .slice raA raL raC], .int .i64 rb] ∧
  let hv11 : Heap := hset (hset hv10 hv3.size 0 (.int .i64 ra)) hv3.size (0 + 1) (.slice raA raL raC)
  R (.tuple #[.agg #[.int .i64 ra, .slice raA raL raC], .int .i64 rb]) hv11

theorem calls35 {h : Heap} {R : Value → Heap → Prop} (w : Int) (hv : Int) (H : S35 w hv h R) : CallsH Try.prog 35 #[.int .i64 w, .int .i64 hv] h R := by
  have e : S35 w hv h R = FX (envX [4] 31) { loops := [], joins := [], blocks := [], draws := [(2, ⟨10, false⟩)] } Try.f35 (Try.f35.body.getD .skip) [.int .i64 w, .int .i64 hv] h R := by kernel_rfl
  exact calls_of_FX (envX_ok _ _) Try.func35 (by kernel_rfl) (by kernel_rfl) (by kernel_rfl) (e ▸ H)

/-- tracery/maker.Grid -/
def Ok35 (w : Int) (hv : Int) (R : Int → List (Int × Int) → Int → Prop) : Prop :=
  ∀ (h : Heap), Hp h [] → CallsH Try.prog 35 #[.int .i64 w, .int .i64 hv] h fun v h' => ∃ (nV : Int) (edgesVA : Option Addr) (edgesVL edgesVC : Nat) (edgesV : List (Int × Int)) (rbV : Int), Sy h [] h' [Ck.sl eP 35 edgesVA edgesVL edgesVC edgesV] ∧ v = .tuple #[.agg #[.int .i64 nV, .slice edgesVA edgesVL edgesVC], .int .i64 rbV] ∧ R nV edgesV rbV
theorem Ok35.mono {w hv} {R R' : Int → List (Int × Int) → Int → Prop} (H : Ok35 w hv R) (kz : ∀ nV edgesV rbV, R nV edgesV rbV → R' nV edgesV rbV) : Ok35 w hv R' :=
  fun h  hp => (H h  hp).mono fun _ _ ⟨nV, edgesVA, edgesVL, edgesVC, edgesV, rbV, P, e, q⟩ => ⟨nV, edgesVA, edgesVL, edgesVC, edgesV, rbV, P, e, kz _ _ _ q⟩

def T35 (w : Int) (hv : Int) (R : Int → List (Int × Int) → Int → Prop) : Prop :=
  Ok124 w hv (fun r =>
  Ok124 (IntKind.i64.wrap (w - (1 : Int))) hv (fun r2 =>
  Ok124 w (IntKind.i64.wrap (hv - (1 : Int))) (fun r3 =>
  Ok113 1 ([w, hv] : List Int) r (IntKind.i64.wrap (r2 + r3)) (fun r4 =>
  Ok112_126 r4 r hv w (fun ra ra_2 rb =>
  R ra ra_2 rb)))))

theorem ok35 {w hv} {R : Int → List (Int × Int) → Int → Prop} (T : T35 w hv R) : Ok35 w hv R := by
  intro h  H
  have Y : Sy h [] h _ := Sy.startM H rfl
  apply calls35
  unfold S35
  unfold T35 at T
  intro hv2
  have Y : Sy _ _ hv2 [_] := Y.newO _
  clear_value hv2
  intro hv3
  have Y : Sy _ _ hv3 [_, _] := Y.newO _
  clear_value hv3
  intro hv4
  have Y : Sy _ _ hv4 [_, _, _] := Y.junk _
  clear_value hv4
  refine ⟨_, Y.cellO 0 rfl 0 rfl, ?_⟩
  refine ⟨_, Y.cellO 1 rfl 0 rfl, ?_⟩
  refine callX_sy (T _ (Hp.nil _)) (fun _ _ ⟨_, p, _⟩ => p.fr) (allc (fun h => by cases h) alln) ?_
  rintro v hv5 ⟨r, PP, rfl, T⟩
  have Y : Sy _ _ hv5 [_, _, _] := Y.gr PP.fr
  clear PP
  refine ⟨r, rfl, ?_⟩
  have Y0 := Y
  have F : Fr [] hv5 hv5 := Fr.refl _ _
  refine ⟨_, Y0.cellO 0 rfl 0 rfl, ?_⟩
  refine ⟨_, Y0.cellO 1 rfl 0 rfl, ?_⟩
  refine ⟨_, Y0.cellO 0 rfl 0 rfl, ?_⟩
  refine ⟨_, Y0.cellO 1 rfl 0 rfl, ?_⟩
  refine callX_sy (T _ (Hp.nil _)) (fun _ _ ⟨_, p, _⟩ => p.fr) (allc (fun h => by cases h) alln) ?_
  rintro v2 hv6 ⟨r2, PP, rfl, T⟩
  have F : Fr _ _ hv6 := F.trans PP.fr.nil
  have fshv6 := F.size
  have Y : Sy _ _ hv6 [_, _, _] := Y.gr PP.fr
  clear PP
  refine ⟨r2, rfl, ?_⟩
  refine ⟨F, ?_⟩
  refine callX_sy (T _ (Hp.nil _)) (fun _ _ ⟨_, p, _⟩ => p.fr) (allc (fun h => by cases h) alln) ?_
  rintro v3 hv7 ⟨r3, PP, rfl, T⟩
  have F : Fr _ _ hv7 := F.trans PP.fr.nil
  have fshv7 := F.size
  have Y : Sy _ _ hv7 [_, _, _] := Y.gr PP.fr
  clear PP
  refine ⟨r3, rfl, ?_⟩
  refine ⟨F, ?_⟩
  refine ⟨_, Y.cellO 0 rfl 0 rfl, ?_⟩
  refine ⟨_, Y.cellO 1 rfl 0 rfl, ?_⟩
  intro hv8
  have Y : Sy _ _ hv8 [_, _, _, _] := Y.litS (E := eI) (ty := 3) ([w, hv] : List Int) rfl (by simp [maxLen])
  clear_value hv8
  refine callX_sy (T _ _ _ _ ((Y.turn 3 rfl To.slvw).pick [3] rfl).hp) (fun _ _ ⟨_, p, _⟩ => p.fr) (allc (fun h => by cases h) alln) ?_
  rintro v4 hv9 ⟨r4, PP, rfl, T⟩
  have Y : Sy _ _ hv9 [_, _, _, _] := Y.gr PP.fr
  clear PP
  refine ⟨r4, rfl, ?_⟩
  refine callX_sy (T _ _ _ _ _ (((Y.turn 1 rfl To.obvob).turn 0 rfl To.obvob).pick [1, 0] rfl).hp) (fun _ _ ⟨_, _, _, _, _, _, p, _⟩ => p.fr) (allc (fun h => by cases h) alln) ?_
  rintro v5 hv10 ⟨ra, raA, raL, raC, ra_2, rb, PP, rfl, T⟩
  have Y : Sy _ _ hv10 [_, _, _, _, _] := Y.callV PP ⟨rfl, trivial⟩
  clear PP
  obtain rfl := Y.lenS 4 rfl
  refine ⟨ra, _, _, _, rb, rfl, ?_⟩
  intro hv11
  have Y : Sy _ _ hv11 [_, _, _, _, _] := ((Y.stJ 2 rfl _ _).stJ 2 rfl _ _)
  clear_value hv11
  exact ⟨_, _, _, _, _, _, Y.pick [4] rfl, rfl, T⟩

/-- tracery/maker.Path -/
def S136 (n : Int) (h : Heap) (R : Value → Heap → Prop) : Prop :=
  let hv : Heap := h.push (.cells #[.int .i64 n] 3)
  let hv2 : Heap := hv.push (.cells #[.int .i64 0, .slice none 0 0] 26)
  ∃ x : Int, hcell hv2 h.size 0 = some (.int .i64 x) ∧ ∃ x2 : Int, hcell hv2 h.size 0 = some (.int .i64 x2) ∧ ∃ x3 : Int, hcell hv2 h.size 0 = some (.int .i64 x3) ∧ ∃ x4 : Int, hcell hv2 h.size 0 = some (.int .i64 x4) ∧ let hv3 : Heap := hv2.push (.cells #[.int .i64 x] 3)
  Fr [] hv2 hv3 ∧
  callX Try.prog 113 #[.int .i64 1, .slice (some (⟨hv2.size, 0, none⟩ : Addr)) 1 1, .int .i64 x2, .int .i64 (IntKind.i64.wrap (x3 - (1 : Int)))] hv3 [hv.size] fun v hv4 =>
  ∃ r : Int, v = .int .i64 r ∧
  Fr [] hv2 hv4 ∧
  callX Try.prog 112 #[.int .i64 r, .int .i64 x4, .func (.func 200) #[] #[.pointer (some (⟨h.size, 0, none⟩ : Addr))]] hv4 [hv.size] fun v2 hv5 =>
  ∃ ra : Int, ∃ (raA : Option Addr) (raL raC : Nat), ∃ rb : Int, v2 = .tuple #[.agg #[.int .i64 ra, .slice raA raL raC], .int .i64 rb] ∧
  Fr [] hv2 hv5 ∧
  let hv6 : Heap := hset (hset hv5 hv.size 0 (.int .i64 ra)) hv.size (0 + 1) (.slice raA raL raC)
  R (.tuple #[.agg #[.int .i64 ra, .slice raA raL raC], .int .i64 rb]) hv6

theorem calls136 {h : Heap} {R : Value → Heap → Prop} (n : Int) (H : S136 n h R) : CallsH Try.prog 136 #[.int .i64 n] h R := by
  have e : S136 n h R = FX (envX [2] 15) { loops := [], joins := [], blocks := [], draws := [(1, ⟨11, false⟩)] } Try.f136 (Try.f136.body.getD .skip) [.int .i64 n] h R := by kernel_rfl
  exact calls_of_FX (envX_ok _ _) Try.func136 (by kernel_rfl) (by kernel_rfl) (by kernel_rfl) (e ▸ H)

/-- tracery/maker.Path -/
def Ok136 (n : Int) (R : Int → List (Int × Int) → Int → Prop) : Prop :=
  ∀ (h : Heap), Hp h [] → CallsH Try.prog 136 #[.int .i64 n] h fun v h' => ∃ (nV : Int) (edgesVA : Option Addr) (edgesVL edgesVC : Nat) (edgesV : List (Int × Int)) (rbV : Int), Sy h [] h' [Ck.sl eP 35 edgesVA edgesVL edgesVC edgesV] ∧ v = .tuple #[.agg #[.int .i64 nV, .slice edgesVA edgesVL edgesVC], .int .i64 rbV] ∧ R nV edgesV rbV
theorem Ok136.mono {n} {R R' : Int → List (Int × Int) → Int → Prop} (H : Ok136 n R) (kz : ∀ nV edgesV rbV, R nV edgesV rbV → R' nV edgesV rbV) : Ok136 n R' :=
  fun h  hp => (H h  hp).mono fun _ _ ⟨nV, edgesVA, edgesVL, edgesVC, edgesV, rbV, P, e, q⟩ => ⟨nV, edgesVA, edgesVL, edgesVC, edgesV, rbV, P, e, kz _ _ _ q⟩

def T136 (n : Int) (R : Int → List (Int × Int) → Int → Prop) : Prop :=
  Ok113 1 ([n] : List Int) n (IntKind.i64.wrap (n - (1 : Int))) (fun r =>
  Ok112_200 r n n (fun ra ra_2 rb =>
  R ra ra_2 rb))

theorem ok136 {n} {R : Int → List (Int × Int) → Int → Prop} (T : T136 n R) : Ok136 n R := by
  intro h  H
  have Y : Sy h [] h _ := Sy.startM H rfl
  apply calls136
  unfold S136
  unfold T136 at T
  intro hv
  have Y : Sy _ _ hv [_] := Y.newO _
  clear_value hv
  intro hv2
  have Y : Sy _ _ hv2 [_, _] := Y.junk _
  clear_value hv2
  have Y0 := Y
  have F : Fr [] hv2 hv2 := Fr.refl _ _
  refine ⟨_, Y0.cellO 0 rfl 0 rfl, ?_⟩
  refine ⟨_, Y0.cellO 0 rfl 0 rfl, ?_⟩
  refine ⟨_, Y0.cellO 0 rfl 0 rfl, ?_⟩
  refine ⟨_, Y0.cellO 0 rfl 0 rfl, ?_⟩
  intro hv3
  have Y : Sy _ _ hv3 [_, _, _] := Y.litS (E := eI) (ty := 3) ([n] : List Int) rfl (by simp [maxLen])
  have F : Fr _ _ hv3 := F.pushr _
  have fshv3 := F.size
  clear_value hv3
  refine ⟨F, ?_⟩
  refine callX_sy (T _ _ _ _ ((Y.turn 2 rfl To.slvw).pick [2] rfl).hp) (fun _ _ ⟨_, p, _⟩ => p.fr) (allc (fun h => by cases h) alln) ?_
  rintro v hv4 ⟨r, PP, rfl, T⟩
  have F : Fr _ _ hv4 := F.trans PP.fr.nil
  have fshv4 := F.size
  have Y : Sy _ _ hv4 [_, _, _] := Y.gr PP.fr
  clear PP
  refine ⟨r, rfl, ?_⟩
  refine ⟨F, ?_⟩
  refine callX_sy (T _ _ _ ((Y.turn 0 rfl To.obvob).pick [0] rfl).hp) (fun _ _ ⟨_, _, _, _, _, _, p, _⟩ => p.fr) (allc (fun h => by cases h) alln) ?_
  rintro v2 hv5 ⟨ra, raA, raL, raC, ra_2, rb, PP, rfl, T⟩
  have F : Fr _ _ hv5 := F.trans PP.fr.nil
  have fshv5 := F.size
  have Y : Sy _ _ hv5 [_, _, _, _] := Y.callV PP ⟨rfl, trivial⟩
  clear PP
  obtain rfl := Y.lenS 3 rfl
  refine ⟨ra, _, _, _, rb, rfl, ?_⟩
  refine ⟨F, ?_⟩
  intro hv6
  have Y : Sy _ _ hv6 [_, _, _, _] := ((Y.stJ 1 rfl _ _).stJ 1 rfl _ _)
  clear_value hv6
  exact ⟨_, _, _, _, _, _, Y.pick [3] rfl, rfl, T⟩

/-- tracery/maker.Bond -/
def S137 (k : Int) (h : Heap) (R : Value → Heap → Prop) : Prop :=
  let hv : Heap := h.push (.cells #[.int .i64 k] 3)
  let hv2 : Heap := hv.push (.cells #[.int .i64 0, .slice none 0 0] 26)
  ∃ x : Int, hcell hv2 h.size 0 = some (.int .i64 x) ∧ let hv3 : Heap := hv2.push (.cells #[.int .i64 x] 3)
  ∃ x2 : Int, hcell hv3 h.size 0 = some (.int .i64 x2) ∧ callX Try.prog 113 #[.int .i64 1, .slice (some (⟨hv2.size, 0, none⟩ : Addr)) 1 1, .int .i64 2, .int .i64 x2] hv3 [hv.size] fun v hv4 =>
  ∃ r : Int, v = .int .i64 r ∧
  callX Try.prog 112 #[.int .i64 r, .int .i64 2, .func (.func 201) #[] #[.pointer (some (⟨h.size, 0, none⟩ : Addr))]] hv4 [hv.size] fun v2 hv5 =>
  ∃ ra : Int, ∃ (raA : Option Addr) (raL raC : Nat), ∃ rb : Int, v2 = .tuple #[.agg #[.int .i64 ra, .slice raA raL raC], .int .i64 rb] ∧
  let hv6 : Heap := hset (hset hv5 hv.size 0 (.int .i64 ra)) hv.size (0 + 1) (.slice raA raL raC)
  R (.tuple #[.agg #[.int .i64 ra, .slice raA raL raC], .int .i64 rb]) hv6

theorem calls137 {h : Heap} {R : Value → Heap → Prop} (k : Int) (H : S137 k h R) : CallsH Try.prog 137 #[.int .i64 k] h R := by
  have e : S137 k h R = FX (envX [2] 12) { loops := [], joins := [], blocks := [], draws := [] } Try.f137 (Try.f137.body.getD .skip) [.int .i64 k] h R := by kernel_rfl
  exact calls_of_FX (envX_ok _ _) Try.func137 (by kernel_rfl) (by kernel_rfl) (by kernel_rfl) (e ▸ H)

/-- tracery/maker.Bond -/
def Ok137 (k : Int) (R : Int → List (Int × Int) → Int → Prop) : Prop :=
  ∀ (h : Heap), Hp h [] → CallsH Try.prog 137 #[.int .i64 k] h fun v h' => ∃ (nV : Int) (edgesVA : Option Addr) (edgesVL edgesVC : Nat) (edgesV : List (Int × Int)) (rbV : Int), Sy h [] h' [Ck.sl eP 35 edgesVA edgesVL edgesVC edgesV] ∧ v = .tuple #[.agg #[.int .i64 nV, .slice edgesVA edgesVL edgesVC], .int .i64 rbV] ∧ R nV edgesV rbV
theorem Ok137.mono {k} {R R' : Int → List (Int × Int) → Int → Prop} (H : Ok137 k R) (kz : ∀ nV edgesV rbV, R nV edgesV rbV → R' nV edgesV rbV) : Ok137 k R' :=
  fun h  hp => (H h  hp).mono fun _ _ ⟨nV, edgesVA, edgesVL, edgesVC, edgesV, rbV, P, e, q⟩ => ⟨nV, edgesVA, edgesVL, edgesVC, edgesV, rbV, P, e, kz _ _ _ q⟩

def T137 (k : Int) (R : Int → List (Int × Int) → Int → Prop) : Prop :=
  Ok113 1 ([k] : List Int) 2 k (fun r =>
  Ok112_201 r 2 k (fun ra ra_2 rb =>
  R ra ra_2 rb))

theorem ok137 {k} {R : Int → List (Int × Int) → Int → Prop} (T : T137 k R) : Ok137 k R := by
  intro h  H
  have Y : Sy h [] h _ := Sy.startM H rfl
  apply calls137
  unfold S137
  unfold T137 at T
  intro hv
  have Y : Sy _ _ hv [_] := Y.newO _
  clear_value hv
  intro hv2
  have Y : Sy _ _ hv2 [_, _] := Y.junk _
  clear_value hv2
  refine ⟨_, Y.cellO 0 rfl 0 rfl, ?_⟩
  intro hv3
  have Y : Sy _ _ hv3 [_, _, _] := Y.litS (E := eI) (ty := 3) ([k] : List Int) rfl (by simp [maxLen])
  clear_value hv3
  refine ⟨_, Y.cellO 0 rfl 0 rfl, ?_⟩
  refine callX_sy (T _ _ _ _ ((Y.turn 2 rfl To.slvw).pick [2] rfl).hp) (fun _ _ ⟨_, p, _⟩ => p.fr) (allc (fun h => by cases h) alln) ?_
  rintro v hv4 ⟨r, PP, rfl, T⟩
  have Y : Sy _ _ hv4 [_, _, _] := Y.gr PP.fr
  clear PP
  refine ⟨r, rfl, ?_⟩
  refine callX_sy (T _ _ _ ((Y.turn 0 rfl To.obvob).pick [0] rfl).hp) (fun _ _ ⟨_, _, _, _, _, _, p, _⟩ => p.fr) (allc (fun h => by cases h) alln) ?_
  rintro v2 hv5 ⟨ra, raA, raL, raC, ra_2, rb, PP, rfl, T⟩
  have Y : Sy _ _ hv5 [_, _, _, _] := Y.callV PP ⟨rfl, trivial⟩
  clear PP
  obtain rfl := Y.lenS 3 rfl
  refine ⟨ra, _, _, _, rb, rfl, ?_⟩
  intro hv6
  have Y : Sy _ _ hv6 [_, _, _, _] := ((Y.stJ 1 rfl _ _).stJ 1 rfl _ _)
  clear_value hv6
  exact ⟨_, _, _, _, _, _, Y.pick [3] rfl, rfl, T⟩

/-- tracery/maker.Random -/
def S138 (n : Int) (m : Int) (seed : Int) (h : Heap) (R : Value → Heap → Prop) : Prop :=
  let hv : Heap := h.push (.cells #[.int .i64 n] 3)
  let hv2 : Heap := hv.push (.cells #[.int .i64 m] 3)
  let hv3 : Heap := hv2.push (.cells #[.int .u64 seed] 22)
  let hv4 : Heap := hv3.push (.cells #[.int .i64 0, .slice none 0 0] 26)
  ∃ x : Int, hcell hv4 h.size 0 = some (.int .i64 x) ∧ let hv5 : Heap := hv4.push (.cells #[.int .i64 x] 3)
  ∃ x2 : Int, hcell hv5 h.size 0 = some (.int .i64 x2) ∧ ∃ x3 : Int, hcell hv5 hv.size 0 = some (.int .i64 x3) ∧ callX Try.prog 113 #[.int .i64 1, .slice (some (⟨hv4.size, 0, none⟩ : Addr)) 1 1, .int .i64 x2, .int .i64 (if (0 : Int) > x3 then (0 : Int) else x3)] hv5 [hv3.size] fun v hv6 =>
  ∃ r : Int, v = .int .i64 r ∧
  ∃ x4 : Int, hcell hv6 hv.size 0 = some (.int .i64 x4) ∧ ∃ Jv : List Value → Heap → Prop, -- join 16 ['e']
  ( cnd (decide (x4 < (0 : Int)))
     (Jv [.int .i64 1] hv6)
     (Jv [.int .i64 r] hv6)) ∧
  ∀ ev : Int, ∀ hv7, Jv [.int .i64 ev] hv7 →
  ∃ x5 : Int, hcell hv7 h.size 0 = some (.int .i64 x5) ∧ callX Try.prog 112 #[.int .i64 ev, .int .i64 x5, .func (.func 202) #[] #[.pointer (some (⟨hv2.size, 0, none⟩ : Addr)), .pointer (some (⟨hv.size, 0, none⟩ : Addr)), .pointer (some (⟨h.size, 0, none⟩ : Addr))]] hv7 [hv3.size] fun v2 hv8 =>
  ∃ ra : Int, ∃ (raA : Option Addr) (raL raC : Nat), ∃ rb : Int, v2 = .tuple #[.agg #[.int .i64 ra, .slice raA raL raC], .int .i64 rb] ∧
  let hv9 : Heap := hset (hset hv8 hv3.size 0 (.int .i64 ra)) hv3.size (0 + 1) (.slice raA raL raC)
  R (.tuple #[.agg #[.int .i64 ra, .slice raA raL raC], .int .i64 rb]) hv9

theorem calls138 {h : Heap} {R : Value → Heap → Prop} (n : Int) (m : Int) (seed : Int) (H : S138 n m seed h R) : CallsH Try.prog 138 #[.int .i64 n, .int .i64 m, .int .u64 seed] h R := by
  have e : S138 n m seed h R = FX (envX [6] 23) { loops := [], joins := [(16, ⟨[3, 4, 5, 6], [8], [6], []⟩)], blocks := [], draws := [] } Try.f138 (Try.f138.body.getD .skip) [.int .i64 n, .int .i64 m, .int .u64 seed] h R := by kernel_rfl
  exact calls_of_FX (envX_ok _ _) Try.func138 (by kernel_rfl) (by kernel_rfl) (by kernel_rfl) (e ▸ H)

/-- tracery/maker.Random -/
def Ok138 (n : Int) (m : Int) (seed : Int) (R : Int → List (Int × Int) → Int → Prop) : Prop :=
  ∀ (h : Heap), Hp h [] → CallsH Try.prog 138 #[.int .i64 n, .int .i64 m, .int .u64 seed] h fun v h' => ∃ (nV : Int) (edgesVA : Option Addr) (edgesVL edgesVC : Nat) (edgesV : List (Int × Int)) (rbV : Int), Sy h [] h' [Ck.sl eP 35 edgesVA edgesVL edgesVC edgesV] ∧ v = .tuple #[.agg #[.int .i64 nV, .slice edgesVA edgesVL edgesVC], .int .i64 rbV] ∧ R nV edgesV rbV
theorem Ok138.mono {n m seed} {R R' : Int → List (Int × Int) → Int → Prop} (H : Ok138 n m seed R) (kz : ∀ nV edgesV rbV, R nV edgesV rbV → R' nV edgesV rbV) : Ok138 n m seed R' :=
  fun h  hp => (H h  hp).mono fun _ _ ⟨nV, edgesVA, edgesVL, edgesVC, edgesV, rbV, P, e, q⟩ => ⟨nV, edgesVA, edgesVL, edgesVC, edgesV, rbV, P, e, kz _ _ _ q⟩

def T138 (n : Int) (m : Int) (seed : Int) (R : Int → List (Int × Int) → Int → Prop) : Prop :=
  Ok113 1 ([n] : List Int) n (if (0 : Int) > m then (0 : Int) else m) (fun r =>
  ∃ Jv : Int → Prop,
  ( cnd (decide (m < (0 : Int)))
     (Jv 1)
     (Jv r)) ∧
  ∀ ev : Int, Jv ev →
  Ok112_202 ev n seed m n (fun ra ra_2 rb =>
  R ra ra_2 rb))

theorem ok138 {n m seed} {R : Int → List (Int × Int) → Int → Prop} (T : T138 n m seed R) : Ok138 n m seed R := by
  intro h  H
  have Y : Sy h [] h _ := Sy.startM H rfl
  apply calls138
  unfold S138
  unfold T138 at T
  intro hv
  have Y : Sy _ _ hv [_] := Y.newO _
  clear_value hv
  intro hv2
  have Y : Sy _ _ hv2 [_, _] := Y.newO _
  clear_value hv2
  intro hv3
  have Y : Sy _ _ hv3 [_, _, _] := Y.newO _
  clear_value hv3
  intro hv4
  have Y : Sy _ _ hv4 [_, _, _, _] := Y.junk _
  clear_value hv4
  refine ⟨_, Y.cellO 0 rfl 0 rfl, ?_⟩
  intro hv5
  have Y : Sy _ _ hv5 [_, _, _, _, _] := Y.litS (E := eI) (ty := 3) ([n] : List Int) rfl (by simp [maxLen])
  clear_value hv5
  refine ⟨_, Y.cellO 0 rfl 0 rfl, ?_⟩
  refine ⟨_, Y.cellO 1 rfl 0 rfl, ?_⟩
  refine callX_sy (T _ _ _ _ ((Y.turn 4 rfl To.slvw).pick [4] rfl).hp) (fun _ _ ⟨_, p, _⟩ => p.fr) (allc (fun h => by cases h) alln) ?_
  rintro v hv6 ⟨r, PP, rfl, T⟩
  have Y : Sy _ _ hv6 [_, _, _, _, _] := Y.gr PP.fr
  clear PP
  refine ⟨r, rfl, ?_⟩
  refine ⟨_, Y.cellO 1 rfl 0 rfl, ?_⟩
  obtain ⟨Jv, T0, T1⟩ := T
  obtain ⟨B, hB, _⟩ := Y.cut [] [0, 1, 2, 3, 4] rfl
  refine ⟨fun lz h' => ∃ (ev : Int), lz = [.int .i64 ev] ∧ Sy h [] h' ([] ++ B) ∧ Jv ev, ?_, ?_⟩
  · subst hB
    replace T := T0
    clear T0 T1
    refine cnd_imp T (fun T => ?_) (fun T => ?_)
    · exact ⟨_, rfl, Y.pick [0, 1, 2, 3, 4] rfl, T⟩
    · exact ⟨_, rfl, Y.pick [0, 1, 2, 3, 4] rfl, T⟩
  · subst hB
    clear T0 Y
    rintro ev hv7 ⟨ev, e, Y, T⟩
    cases e
    replace T := T1 ev T
    have Y : Sy _ _ _ [_, _, _, _, _] := Y
    refine ⟨_, Y.cellO 0 rfl 0 rfl, ?_⟩
    refine callX_sy (T _ _ _ _ _ _ _ ((((Y.turn 2 rfl To.obvob).turn 1 rfl To.obvob).turn 0 rfl To.obvob).pick [2, 1, 0] rfl).hp) (fun _ _ ⟨_, _, _, _, _, _, p, _⟩ => p.fr) (allc (fun h => by cases h) alln) ?_
    rintro v2 hv8 ⟨ra, raA, raL, raC, ra_2, rb, PP, rfl, T⟩
    have Y : Sy _ _ hv8 [_, _, _, _, _, _] := Y.callV PP ⟨rfl, trivial⟩
    clear PP
    obtain rfl := Y.lenS 5 rfl
    refine ⟨ra, _, _, _, rb, rfl, ?_⟩
    intro hv9
    have Y : Sy _ _ hv9 [_, _, _, _, _, _] := ((Y.stJ 3 rfl _ _).stJ 3 rfl _ _)
    clear_value hv9
    exact ⟨_, _, _, _, _, _, Y.pick [5] rfl, rfl, T⟩

/-- tracery/maker.Stack -/
def S28 (n : Int) (seed : Int) (h : Heap) (R : Value → Heap → Prop) : Prop :=
  let hv : Heap := h.push (.cells #[.int .i64 n] 3)
  let hv2 : Heap := hv.push (.cells #[.int .u64 seed] 22)
  let hv3 : Heap := hv2.push (.cells #[.int .i64 0, .slice none 0 0] 26)
  ∃ x : Int, hcell hv3 h.size 0 = some (.int .i64 x) ∧ ∃ x2 : Int, hcell hv3 h.size 0 = some (.int .i64 x2) ∧ ∃ x3 : Int, hcell hv3 h.size 0 = some (.int .i64 x3) ∧ ∃ x4 : Int, hcell hv3 h.size 0 = some (.int .i64 x4) ∧ let hv4 : Heap := hv3.push (.cells #[.int .i64 x] 3)
  Fr [] hv3 hv4 ∧
  callX Try.prog 113 #[.int .i64 3, .slice (some (⟨hv3.size, 0, none⟩ : Addr)) 1 1, .int .i64 x2, .int .i64 (IntKind.i64.wrap ((IntKind.i64.wrap ((3 : Int) * (if (3072 : Int) < x3 then (3072 : Int) else x3))) - (6 : Int)))] hv4 [hv2.size] fun v hv5 =>
  ∃ r : Int, v = .int .i64 r ∧
  Fr [] hv3 hv5 ∧
  callX Try.prog 112 #[.int .i64 r, .int .i64 x4, .func (.func 114) #[] #[.pointer (some (⟨hv.size, 0, none⟩ : Addr)), .pointer (some (⟨h.size, 0, none⟩ : Addr))]] hv5 [hv2.size] fun v2 hv6 =>
  ∃ ra : Int, ∃ (raA : Option Addr) (raL raC : Nat), ∃ rb : Int, v2 = .tuple #[.agg #[.int .i64 ra, .slice raA raL raC], .int .i64 rb] ∧
  Fr [] hv3 hv6 ∧
  let hv7 : Heap := hset (hset hv6 hv2.size 0 (.int .i64 ra)) hv2.size (0 + 1) (.slice raA raL raC)
  R (.tuple #[.agg #[.int .i64 ra, .slice raA raL raC], .int .i64 rb]) hv7

theorem calls28 {h : Heap} {R : Value → Heap → Prop} (n : Int) (seed : Int) (H : S28 n seed h R) : CallsH Try.prog 28 #[.int .i64 n, .int .u64 seed] h R := by
  have e : S28 n seed h R = FX (envX [4] 19) { loops := [], joins := [], blocks := [], draws := [(1, ⟨13, false⟩)] } Try.f28 (Try.f28.body.getD .skip) [.int .i64 n, .int .u64 seed] h R := by kernel_rfl
  exact calls_of_FX (envX_ok _ _) Try.func28 (by kernel_rfl) (by kernel_rfl) (by kernel_rfl) (e ▸ H)

/-- tracery/maker.Stack -/
def Ok28 (n : Int) (seed : Int) (R : Int → List (Int × Int) → Int → Prop) : Prop :=
  ∀ (h : Heap), Hp h [] → CallsH Try.prog 28 #[.int .i64 n, .int .u64 seed] h fun v h' => ∃ (nV : Int) (edgesVA : Option Addr) (edgesVL edgesVC : Nat) (edgesV : List (Int × Int)) (rbV : Int), Sy h [] h' [Ck.sl eP 35 edgesVA edgesVL edgesVC edgesV] ∧ v = .tuple #[.agg #[.int .i64 nV, .slice edgesVA edgesVL edgesVC], .int .i64 rbV] ∧ R nV edgesV rbV
theorem Ok28.mono {n seed} {R R' : Int → List (Int × Int) → Int → Prop} (H : Ok28 n seed R) (kz : ∀ nV edgesV rbV, R nV edgesV rbV → R' nV edgesV rbV) : Ok28 n seed R' :=
  fun h  hp => (H h  hp).mono fun _ _ ⟨nV, edgesVA, edgesVL, edgesVC, edgesV, rbV, P, e, q⟩ => ⟨nV, edgesVA, edgesVL, edgesVC, edgesV, rbV, P, e, kz _ _ _ q⟩

def T28 (n : Int) (seed : Int) (R : Int → List (Int × Int) → Int → Prop) : Prop :=
  Ok113 3 ([n] : List Int) n (IntKind.i64.wrap ((IntKind.i64.wrap ((3 : Int) * (if (3072 : Int) < n then (3072 : Int) else n))) - (6 : Int))) (fun r =>
  Ok112_114 r n seed n (fun ra ra_2 rb =>
  R ra ra_2 rb))

theorem ok28 {n seed} {R : Int → List (Int × Int) → Int → Prop} (T : T28 n seed R) : Ok28 n seed R := by
  intro h  H
  have Y : Sy h [] h _ := Sy.startM H rfl
  apply calls28
  unfold S28
  unfold T28 at T
  intro hv
  have Y : Sy _ _ hv [_] := Y.newO _
  clear_value hv
  intro hv2
  have Y : Sy _ _ hv2 [_, _] := Y.newO _
  clear_value hv2
  intro hv3
  have Y : Sy _ _ hv3 [_, _, _] := Y.junk _
  clear_value hv3
  have Y0 := Y
  have F : Fr [] hv3 hv3 := Fr.refl _ _
  refine ⟨_, Y0.cellO 0 rfl 0 rfl, ?_⟩
  refine ⟨_, Y0.cellO 0 rfl 0 rfl, ?_⟩
  refine ⟨_, Y0.cellO 0 rfl 0 rfl, ?_⟩
  refine ⟨_, Y0.cellO 0 rfl 0 rfl, ?_⟩
  intro hv4
  have Y : Sy _ _ hv4 [_, _, _, _] := Y.litS (E := eI) (ty := 3) ([n] : List Int) rfl (by simp [maxLen])
  have F : Fr _ _ hv4 := F.pushr _
  have fshv4 := F.size
  clear_value hv4
  refine ⟨F, ?_⟩
  refine callX_sy (T _ _ _ _ ((Y.turn 3 rfl To.slvw).pick [3] rfl).hp) (fun _ _ ⟨_, p, _⟩ => p.fr) (allc (fun h => by cases h) alln) ?_
  rintro v hv5 ⟨r, PP, rfl, T⟩
  have F : Fr _ _ hv5 := F.trans PP.fr.nil
  have fshv5 := F.size
  have Y : Sy _ _ hv5 [_, _, _, _] := Y.gr PP.fr
  clear PP
  refine ⟨r, rfl, ?_⟩
  refine ⟨F, ?_⟩
  refine callX_sy (T _ _ _ _ _ (((Y.turn 1 rfl To.obvob).turn 0 rfl To.obvob).pick [1, 0] rfl).hp) (fun _ _ ⟨_, _, _, _, _, _, p, _⟩ => p.fr) (allc (fun h => by cases h) alln) ?_
  rintro v2 hv6 ⟨ra, raA, raL, raC, ra_2, rb, PP, rfl, T⟩
  have F : Fr _ _ hv6 := F.trans PP.fr.nil
  have fshv6 := F.size
  have Y : Sy _ _ hv6 [_, _, _, _, _] := Y.callV PP ⟨rfl, trivial⟩
  clear PP
  obtain rfl := Y.lenS 4 rfl
  refine ⟨ra, _, _, _, rb, rfl, ?_⟩
  refine ⟨F, ?_⟩
  intro hv7
  have Y : Sy _ _ hv7 [_, _, _, _, _] := ((Y.stJ 2 rfl _ _).stJ 2 rfl _ _)
  clear_value hv7
  exact ⟨_, _, _, _, _, _, Y.pick [4] rfl, rfl, T⟩

/-- tracery/tracerylaw5.begun -/
def S27  (h : Heap) (R : Value → Heap → Prop) : Prop :=
  callX Try.prog 30 #[.int .i64 3] h [] fun v hv =>
  ∃ ra : Int, ∃ (raA : Option Addr) (raL raC : Nat), ∃ rb : Int, v = .tuple #[.agg #[.int .i64 ra, .slice raA raL raC], .int .i64 rb] ∧
  let hv2 : Heap := hv.push (.cells #[.int .i64 0, .slice none 0 0] 26)
  let hv3 : Heap := hset (hset hv2 hv.size 0 (.int .i64 ra)) hv.size (0 + 1) (.slice raA raL raC)
  callX Try.prog 35 #[.int .i64 2, .int .i64 2] hv3 [hv.size] fun v2 hv4 =>
  ∃ ra2 : Int, ∃ (raA2 : Option Addr) (raL2 raC2 : Nat), ∃ rb2 : Int, v2 = .tuple #[.agg #[.int .i64 ra2, .slice raA2 raL2 raC2], .int .i64 rb2] ∧
  let hv5 : Heap := hv4.push (.cells #[.int .i64 0, .slice none 0 0] 26)
  let hv6 : Heap := hset (hset hv5 hv4.size 0 (.int .i64 ra2)) hv4.size (0 + 1) (.slice raA2 raL2 raC2)
  callX Try.prog 33 #[.int .i64 79] hv6 [hv4.size, hv.size] fun v3 hv7 =>
  ∃ ra3 : Int, ∃ (raA3 : Option Addr) (raL3 raC3 : Nat), ∃ rb3 : Int, v3 = .tuple #[.agg #[.int .i64 ra3, .slice raA3 raL3 raC3], .int .i64 rb3] ∧
  let hv8 : Heap := hv7.push (.cells #[.int .i64 0, .slice none 0 0] 26)
  let hv9 : Heap := hset (hset hv8 hv7.size 0 (.int .i64 ra3)) hv7.size (0 + 1) (.slice raA3 raL3 raC3)
  cnd (((raL : Nat) : Int) == (3 : Int))
    (cnd (rb == (0 : Int))
      (cnd (((raL2 : Nat) : Int) == (4 : Int))
        (cnd (rb2 == (0 : Int))
          (R (.bool (rb3 == (3 : Int))) hv9)
          (R (.bool false) hv9))
        (R (.bool false) hv9))
      (R (.bool false) hv9))
    (R (.bool false) hv9)

theorem calls27 {h : Heap} {R : Value → Heap → Prop}  (H : S27  h R) : CallsH Try.prog 27 #[] h R := by
  have e : S27  h R = FX (envX [1, 3, 5] 41) { loops := [], joins := [], blocks := [], draws := [] } Try.f27 (Try.f27.body.getD .skip) [] h R := by kernel_rfl
  exact calls_of_FX (envX_ok _ _) Try.func27 (by kernel_rfl) (by kernel_rfl) (by kernel_rfl) (e ▸ H)

/-- tracery/tracerylaw5.begun -/
def Ok27  (R : Bool → Prop) : Prop :=
  ∀ (h : Heap), Hp h [] → CallsH Try.prog 27 #[] h fun v h' => ∃ (rV : Bool), Sy h [] h' [] ∧ v = .bool rV ∧ R rV
theorem Ok27.mono {R R' : Bool → Prop} (H : Ok27  R) (kz : ∀ rV, R rV → R' rV) : Ok27  R' :=
  fun h  hp => (H h  hp).mono fun _ _ ⟨rV, P, e, q⟩ => ⟨rV, P, e, kz _ q⟩

def T27  (R : Bool → Prop) : Prop :=
  Ok30 3 (fun ra ra_2 rb =>
  Ok35 2 2 (fun ra2 ra_3 rb2 =>
  Ok33 79 (fun ra3 ra_4 rb3 =>
  cnd (((ra_2.length : Nat) : Int) == (3 : Int))
    (cnd (rb == (0 : Int))
      (cnd (((ra_3.length : Nat) : Int) == (4 : Int))
        (cnd (rb2 == (0 : Int))
          (R (rb3 == (3 : Int)))
          (R false))
        (R false))
      (R false))
    (R false))))

theorem ok27 {R : Bool → Prop} (T : T27  R) : Ok27  R := by
  intro h  H
  have Y : Sy h [] h _ := Sy.startM H rfl
  apply calls27
  unfold S27
  unfold T27 at T
  refine callX_sy (T _ (Hp.nil _)) (fun _ _ ⟨_, _, _, _, _, _, p, _⟩ => p.fr) alln ?_
  rintro v hv ⟨ra, raA, raL, raC, ra_2, rb, PP, rfl, T⟩
  have Y : Sy _ _ hv [_] := Y.callV PP ⟨rfl, trivial⟩
  clear PP
  obtain rfl := Y.lenS 0 rfl
  refine ⟨ra, _, _, _, rb, rfl, ?_⟩
  intro hv2
  have Y : Sy _ _ hv2 [_, _] := Y.junk _
  clear_value hv2
  intro hv3
  have Y : Sy _ _ hv3 [_, _] := ((Y.stJ 1 rfl _ _).stJ 1 rfl _ _)
  clear_value hv3
  refine callX_sy (T _ (Hp.nil _)) (fun _ _ ⟨_, _, _, _, _, _, p, _⟩ => p.fr) (allc (fun h => by cases h) alln) ?_
  rintro v2 hv4 ⟨ra2, raA2, raL2, raC2, ra_3, rb2, PP, rfl, T⟩
  have Y : Sy _ _ hv4 [_, _, _] := Y.callV PP ⟨rfl, trivial⟩
  clear PP
  obtain rfl := Y.lenS 2 rfl
  refine ⟨ra2, _, _, _, rb2, rfl, ?_⟩
  intro hv5
  have Y : Sy _ _ hv5 [_, _, _, _] := Y.junk _
  clear_value hv5
  intro hv6
  have Y : Sy _ _ hv6 [_, _, _, _] := ((Y.stJ 3 rfl _ _).stJ 3 rfl _ _)
  clear_value hv6
  refine callX_sy (T _ (Hp.nil _)) (fun _ _ ⟨_, _, _, _, _, _, p, _⟩ => p.fr) (allc (fun h => by cases h) (allc (fun h => by cases h) alln)) ?_
  rintro v3 hv7 ⟨ra3, raA3, raL3, raC3, ra_4, rb3, PP, rfl, T⟩
  have Y : Sy _ _ hv7 [_, _, _, _, _] := Y.callV PP ⟨rfl, trivial⟩
  clear PP
  obtain rfl := Y.lenS 4 rfl
  refine ⟨ra3, _, _, _, rb3, rfl, ?_⟩
  intro hv8
  have Y : Sy _ _ hv8 [_, _, _, _, _, _] := Y.junk _
  clear_value hv8
  intro hv9
  have Y : Sy _ _ hv9 [_, _, _, _, _, _] := ((Y.stJ 5 rfl _ _).stJ 5 rfl _ _)
  clear_value hv9
  refine cnd_imp T (fun T => ?_) (fun T => ?_)
  · refine cnd_imp T (fun T => ?_) (fun T => ?_)
    · refine cnd_imp T (fun T => ?_) (fun T => ?_)
      · refine cnd_imp T (fun T => ?_) (fun T => ?_)
        · exact ⟨_, Y.pick [] rfl, rfl, T⟩
        · exact ⟨_, Y.pick [] rfl, rfl, T⟩
      · exact ⟨_, Y.pick [] rfl, rfl, T⟩
    · exact ⟨_, Y.pick [] rfl, rfl, T⟩
  · exact ⟨_, Y.pick [] rfl, rfl, T⟩

end Go.Proofs.Ytmcloipjlihhlaa.N
