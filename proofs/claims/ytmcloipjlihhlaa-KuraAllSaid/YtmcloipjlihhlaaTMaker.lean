/- Functions: what is left to be shown of each, over memory and without: printed by program, tied to the loaded functions by the kernel. Conditions: none. -/
import Derived.Test.YtmcloipjlihhlaaSEnv
import Derived.Test.YtmcloipjlihhlaaYMore
import Derived.Test.YtmcloipjlihhlaaTNet
namespace Go.Proofs.Ytmcloipjlihhlaa.N
open Go.Proofs.Ytmcloipjlihhlaa
open Go.X
set_option maxRecDepth 100000
set_option linter.unusedVariables false
set_option linter.unusedSimpArgs false
set_option maxHeartbeats 2000000

/-- tracery/traceryref5.made -/
def S129 (n : Int) (edgesA : Option Addr) (edgesL edgesC : Nat) (h : Heap) (R : Value → Heap → Prop) : Prop :=
  let hv : Heap := h.push (.cells #[.int .i64 0, .slice none 0 0] 26)
  let hv2 : Heap := hv.push (.cells #[.int .i64 0, .slice none 0 0] 26)
  let hv3 : Heap := hset (hset hv2 hv.size 0 (.int .i64 n)) hv.size (0 + 1) (.slice edgesA edgesL edgesC)
  callX Try.prog 43 #[.agg #[.int .i64 n, .slice edgesA edgesL edgesC]] hv3 [hv.size, h.size] fun v hv4 =>
  ∃ r : Bool, v = .bool r ∧
  cnd (!r)
    (let hv5 : Heap := hset (hset hv4 h.size 0 (.int .i64 0)) h.size (0 + 1) (.slice none 0 0)
    R (.tuple #[.agg #[.int .i64 0, .slice none 0 0], .int .i64 3]) hv5)
    (let hv6 : Heap := hset (hset hv4 h.size 0 (.int .i64 n)) h.size (0 + 1) (.slice edgesA edgesL edgesC)
    R (.tuple #[.agg #[.int .i64 n, .slice edgesA edgesL edgesC], .int .i64 0]) hv6)
theorem calls129 {h : Heap} {R : Value → Heap → Prop} (n : Int) (edgesA : Option Addr) (edgesL edgesC : Nat) (H : S129 n edgesA edgesL edgesC h R) : CallsH Try.prog 129 #[.int .i64 n, .slice edgesA edgesL edgesC] h R := by
  have e : S129 n edgesA edgesL edgesC h R = FX (envX [4, 6] 15) { loops := [], joins := [], blocks := [], draws := [] } Try.f129 (Try.f129.body.getD .skip) [.int .i64 n, .slice edgesA edgesL edgesC] h R := by kernel_rfl
  exact calls_of_FX (envX_ok _ _) Try.func129 (by kernel_rfl) (by kernel_rfl) (by kernel_rfl) (e ▸ H)
/-- tracery/traceryref5.made -/
def Ok129 (n : Int) (edgesV : List (Int × Int)) (R : Int → List (Int × Int) → Int → Prop) : Prop :=
  ∀ (h : Heap) (edgesA : Option Addr) (edgesL edgesC : Nat), Hp h [Ck.sl eP 35 edgesA edgesL edgesC edgesV] → CallsH Try.prog 129 #[.int .i64 n, .slice edgesA edgesL edgesC] h fun v h' => ∃ (nV : Int) (edgesVA : Option Addr) (edgesVL edgesVC : Nat) (edgesV2 : List (Int × Int)) (rbV : Int), Sy h (owns [Ck.sl eP 35 edgesA edgesL edgesC edgesV]) h' [Ck.sl eP 35 edgesVA edgesVL edgesVC edgesV2] ∧ v = .tuple #[.agg #[.int .i64 nV, .slice edgesVA edgesVL edgesVC], .int .i64 rbV] ∧ R nV edgesV2 rbV
theorem Ok129.mono {n edgesV} {R R' : Int → List (Int × Int) → Int → Prop} (H : Ok129 n edgesV R) (kz : ∀ nV edgesV2 rbV, R nV edgesV2 rbV → R' nV edgesV2 rbV) : Ok129 n edgesV R' :=
  fun h edgesA edgesL edgesC hp => (H h edgesA edgesL edgesC hp).mono fun _ _ ⟨nV, edgesVA, edgesVL, edgesVC, edgesV2, rbV, P, e, q⟩ => ⟨nV, edgesVA, edgesVL, edgesVC, edgesV2, rbV, P, e, kz _ _ _ q⟩
def T129 (n : Int) (edgesV : List (Int × Int)) (R : Int → List (Int × Int) → Int → Prop) : Prop :=
  Ok43 n edgesV (fun r =>
  cnd (!r)
    (R 0 ([] : List (Int × Int)) 3)
    (R n edgesV 0))
theorem ok129 {n edgesV} {R : Int → List (Int × Int) → Int → Prop} (T : T129 n edgesV R) : Ok129 n edgesV R := by
  intro h edgesA edgesL edgesC H
  have Y : Sy h (owns [Ck.sl eP 35 edgesA edgesL edgesC edgesV]) h _ := Sy.startM H rfl
  obtain rfl := Y.lenS 0 rfl
  apply calls129
  unfold S129
  unfold T129 at T
  intro hv
  have Y : Sy _ _ hv [_, _] := Y.junk _
  clear_value hv
  intro hv2
  have Y : Sy _ _ hv2 [_, _, _] := Y.junk _
  clear_value hv2
  intro hv3
  have Y : Sy _ _ hv3 [_, _, _] := ((Y.stJ 2 rfl _ _).stJ 2 rfl _ _)
  clear_value hv3
  refine callX_sy (T _ _ _ _ ((Y.turn 0 rfl To.slvw).pick [0] rfl).hp) (fun _ _ ⟨_, p, _⟩ => p.fr) (allc (fun h => by cases h) (allc (fun h => by cases h) alln)) ?_
  rintro v hv4 ⟨r, PP, rfl, T⟩
  have Y : Sy _ _ hv4 [_, _, _] := Y.gr PP.fr
  clear PP
  refine ⟨r, rfl, ?_⟩
  refine cnd_imp T (fun T => ?_) (fun T => ?_)
  · intro hv5
    have Y : Sy _ _ hv5 [_, _, _] := ((Y.stJ 1 rfl _ _).stJ 1 rfl _ _)
    clear_value hv5
    have Y : Sy _ _ _ [_, _, _, _] := Y.nilS eP 35
    exact ⟨_, _, _, _, _, _, Y.pick [3] rfl, rfl, T⟩
  · intro hv6
    have Y : Sy _ _ hv6 [_, _, _] := ((Y.stJ 1 rfl _ _).stJ 1 rfl _ _)
    clear_value hv6
    exact ⟨_, _, _, _, _, _, Y.pick [0] rfl, rfl, T⟩
/-- tracery/traceryref5.ring -/
def Ok130 (lV : List (Int × Int)) (atv : Int) (n : Int) (R : List (Int × Int) → Prop) : Prop :=
  ∀ (h : Heap) (lA : Option Addr) (lL lC : Nat), Hp h [Ck.sl eP 35 lA lL lC lV] → CallsH Try.prog 130 #[.slice lA lL lC, .int .i64 atv, .int .i64 n] h fun v h' => ∃ (rVA : Option Addr) (rVL rVC : Nat) (rV : List (Int × Int)), Sy h (owns [Ck.sl eP 35 lA lL lC lV]) h' [Ck.sl eP 35 rVA rVL rVC rV] ∧ v = .slice rVA rVL rVC ∧ R rV
theorem Ok130.mono {lV atv n} {R R' : List (Int × Int) → Prop} (H : Ok130 lV atv n R) (kz : ∀ rV, R rV → R' rV) : Ok130 lV atv n R' :=
  fun h lA lL lC hp => (H h lA lL lC hp).mono fun _ _ ⟨rVA, rVL, rVC, rV, P, e, q⟩ => ⟨rVA, rVL, rVC, rV, P, e, kz _ q⟩
/-- tracery/traceryref5.complete -/
def S131 (n : Int) (h : Heap) (R : Value → Heap → Prop) : Prop :=
  let hv : Heap := h.push (.cells #[.int .i64 0, .slice none 0 0] 26)
  cnd (decide (n > (79 : Int)))
    (let hv2 : Heap := hset (hset hv h.size 0 (.int .i64 0)) h.size (0 + 1) (.slice none 0 0)
    R (.tuple #[.agg #[.int .i64 0, .slice none 0 0], .int .i64 3]) hv2)
    (∃ (Iv : List Value → Heap → Prop) (m : List Value → Heap → Nat), Iv [.slice none 0 0, .int .i64 0] hv ∧ -- loop 0: ['l', 'i']
    ∀ (lA : Option Addr) (lL lC : Nat), ∀ i : Int, ∀ hv3, Iv [.slice lA lL lC, .int .i64 i] hv3 →
    cnd (decide (i < n))
      (∃ (Iv2 : List Value → Heap → Prop) (m2 : List Value → Heap → Nat), Iv2 [.slice lA lL lC, .int .i64 (IntKind.i64.wrap (i + (1 : Int)))] hv3 ∧ -- loop 2: ['l', 'k']
      ∀ (lA2 : Option Addr) (lL2 lC2 : Nat), ∀ k : Int, ∀ hv4, Iv2 [.slice lA2 lL2 lC2, .int .i64 k] hv4 →
      cnd (decide (k < n))
        (let hv5 : Heap := hv4.push (.cells #[.int .i64 i, .int .i64 k] 35)
        ∃ old, Ownd hv5 35 2 lA2 lL2 lC2 old ∧ (∀ b ∈ ([hv4.size, h.size] : List Nat), b ∉ blkOf lA2) ∧ (lL2 + 1) * 16 ≤ 140737488355328 ∧ (lL2 + 1) ≤ maxLen ∧
        ∀ sA sC hv6, Ownd hv6 35 2 sA (lL2 + 1) sC (old ++ [.int .i64 i, .int .i64 k]) → Fr (blkOf lA2) hv5 hv6 → ((sA = lA2 ∧ sC = lC2) ∨ ∃ g, sA = some ⟨g, 0, none⟩ ∧ hv5.size ≤ g) → (lC2 < (lL2 + 1) → Fr [] hv5 hv6) →
        Iv2 [.slice sA (lL2 + 1) sC, .int .i64 (IntKind.i64.wrap (k + (1 : Int)))] hv6 ∧ m2 [.slice sA (lL2 + 1) sC, .int .i64 (IntKind.i64.wrap (k + (1 : Int)))] hv6 < m2 [.slice lA2 lL2 lC2, .int .i64 k] hv4)
        (Iv [.slice lA2 lL2 lC2, .int .i64 (IntKind.i64.wrap (i + (1 : Int)))] hv4 ∧ m [.slice lA2 lL2 lC2, .int .i64 (IntKind.i64.wrap (i + (1 : Int)))] hv4 < m [.slice lA lL lC, .int .i64 i] hv3))
      (callX Try.prog 129 #[.int .i64 n, .slice lA lL lC] hv3 [h.size] fun v hv7 =>
      ∃ ra : Int, ∃ (raA : Option Addr) (raL raC : Nat), ∃ rb : Int, v = .tuple #[.agg #[.int .i64 ra, .slice raA raL raC], .int .i64 rb] ∧
      let hv8 : Heap := hset (hset hv7 h.size 0 (.int .i64 ra)) h.size (0 + 1) (.slice raA raL raC)
      R (.tuple #[.agg #[.int .i64 ra, .slice raA raL raC], .int .i64 rb]) hv8))
theorem calls131 {h : Heap} {R : Value → Heap → Prop} (n : Int) (H : S131 n h R) : CallsH Try.prog 131 #[.int .i64 n] h R := by
  have e : S131 n h R = FX (envX [2, 26] 33) { loops := [(0, ⟨[0, 2], [4, 5], [2], []⟩), (2, ⟨[0, 2, 5], [4, 6], [2], []⟩)], joins := [], blocks := [], draws := [] } Try.f131 (Try.f131.body.getD .skip) [.int .i64 n] h R := by kernel_rfl
  exact calls_of_FX (envX_ok _ _) Try.func131 (by kernel_rfl) (by kernel_rfl) (by kernel_rfl) (e ▸ H)
/-- tracery/traceryref5.complete -/
def Ok131 (n : Int) (R : Int → List (Int × Int) → Int → Prop) : Prop :=
  ∀ (h : Heap), Hp h [] → CallsH Try.prog 131 #[.int .i64 n] h fun v h' => ∃ (nV : Int) (edgesVA : Option Addr) (edgesVL edgesVC : Nat) (edgesV : List (Int × Int)) (rbV : Int), Sy h [] h' [Ck.sl eP 35 edgesVA edgesVL edgesVC edgesV] ∧ v = .tuple #[.agg #[.int .i64 nV, .slice edgesVA edgesVL edgesVC], .int .i64 rbV] ∧ R nV edgesV rbV
theorem Ok131.mono {n} {R R' : Int → List (Int × Int) → Int → Prop} (H : Ok131 n R) (kz : ∀ nV edgesV rbV, R nV edgesV rbV → R' nV edgesV rbV) : Ok131 n R' :=
  fun h  hp => (H h  hp).mono fun _ _ ⟨nV, edgesVA, edgesVL, edgesVC, edgesV, rbV, P, e, q⟩ => ⟨nV, edgesVA, edgesVL, edgesVC, edgesV, rbV, P, e, kz _ _ _ q⟩
def T131 (n : Int) (R : Int → List (Int × Int) → Int → Prop) : Prop :=
  cnd (decide (n > (79 : Int)))
    (R 0 ([] : List (Int × Int)) 3)
    (∃ (Iv : List (Int × Int) → Int → Prop) (m : List (Int × Int) → Int → Nat), Iv ([] : List (Int × Int)) 0 ∧
    ∀ l : List (Int × Int), ∀ i : Int, Iv l i →
    cnd (decide (i < n))
      (∃ (Iv2 : List (Int × Int) → Int → Prop) (m2 : List (Int × Int) → Int → Nat), Iv2 l (IntKind.i64.wrap (i + (1 : Int))) ∧
      ∀ l_2 : List (Int × Int), ∀ k : Int, Iv2 l_2 k →
      cnd (decide (k < n))
        ((l_2.length + 1) < 1000000000000 ∧ Iv2 (l_2 ++ [(i, k)]) (IntKind.i64.wrap (k + (1 : Int))) ∧ m2 (l_2 ++ [(i, k)]) (IntKind.i64.wrap (k + (1 : Int))) < m2 l_2 k)
        (Iv l_2 (IntKind.i64.wrap (i + (1 : Int))) ∧ m l_2 (IntKind.i64.wrap (i + (1 : Int))) < m l i))
      (Ok129 n l (fun ra ra_2 rb =>
      R ra ra_2 rb)))
theorem ok131 {n} {R : Int → List (Int × Int) → Int → Prop} (T : T131 n R) : Ok131 n R := by
  intro h  H
  have Y : Sy h [] h _ := Sy.startM H rfl
  apply calls131
  unfold S131
  unfold T131 at T
  intro hv
  have Y : Sy _ _ hv [_] := Y.junk _
  clear_value hv
  refine cnd_imp T (fun T => ?_) (fun T => ?_)
  · intro hv2
    have Y : Sy _ _ hv2 [_] := ((Y.stJ 0 rfl _ _).stJ 0 rfl _ _)
    clear_value hv2
    have Y : Sy _ _ _ [_, _] := Y.nilS eP 35
    exact ⟨_, _, _, _, _, _, Y.pick [1] rfl, rfl, T⟩
  · have Y : Sy _ _ _ [_, _] := Y.nilS eP 35
    obtain ⟨Iv, m, T0, T1⟩ := T
    obtain ⟨B, hB, YB⟩ := Y.cut [1] [0] rfl
    obtain ⟨JJ, hJJ⟩ : ∃ JJ : Nat → List Value → Heap → Prop, JJ = (fun k_2 lz h' => ∃ (lA : Option Addr) (lL lC : Nat) (l : List (Int × Int)) (i : Int), lz = [.slice lA lL lC, .int .i64 i] ∧ Sy h [] h' ([Ck.sl eP 35 lA lL lC l] ++ B) ∧ Iv l i ∧ m l i = k_2) := ⟨_, rfl⟩
    refine ⟨fun lz h' => ∃ k_2, JJ k_2 lz h', Lm JJ, ?_, ?_⟩
    · subst hJJ hB
      exact ⟨_, _, _, _, _, _, rfl, YB, T0, rfl⟩
    · clear YB T0 Y
      intro lA lL lC i hv3 hI
      obtain ⟨k_2, hI, hm⟩ := loopIn hI
      subst hJJ hB
      obtain ⟨lA, lL, lC, l, i, e, Y, T, rfl⟩ := hI
      cases e
      obtain rfl := Y.lenS 0 rfl
      replace T := T1 l i T
      have Y : Sy _ _ _ [_, _] := Y
      refine cnd_imp T (fun T => ?_) (fun T => ?_)
      · obtain ⟨Iv2, m2, T0, T1⟩ := T
        obtain ⟨B_2, hB_2, YB⟩ := Y.cut [0] [1] rfl
        obtain ⟨JJ_2, hJJ_2⟩ : ∃ JJ_2 : Nat → List Value → Heap → Prop, JJ_2 = (fun k_3 lz h' => ∃ (lA2 : Option Addr) (lL2 lC2 : Nat) (l_2 : List (Int × Int)) (k : Int), lz = [.slice lA2 lL2 lC2, .int .i64 k] ∧ Sy h [] h' ([Ck.sl eP 35 lA2 lL2 lC2 l_2] ++ B_2) ∧ Iv2 l_2 k ∧ m2 l_2 k = k_3) := ⟨_, rfl⟩
        refine ⟨fun lz h' => ∃ k_3, JJ_2 k_3 lz h', Lm JJ_2, ?_, ?_⟩
        · subst hJJ_2 hB_2
          exact ⟨_, _, _, _, _, _, rfl, YB, T0, rfl⟩
        · clear YB T0 Y
          intro lA2 lL2 lC2 k hv4 hI
          obtain ⟨k_3, hI, hm_2⟩ := loopIn hI
          subst hJJ_2 hB_2
          obtain ⟨lA2, lL2, lC2, l_2, k, e, Y, T, rfl⟩ := hI
          cases e
          obtain rfl := Y.lenS 0 rfl
          replace T := T1 l_2 k T
          have Y : Sy _ _ _ [_, _] := Y
          refine cnd_imp T (fun T => ?_) (fun T => ?_)
          · intro hv5
            have Y : Sy _ _ hv5 [_, _, _] := Y.junk _
            clear_value hv5
            obtain ⟨q, T⟩ := T
            refine ⟨_, Y.ownS 0 rfl, (allc (Y.nJ 0 2 rfl rfl rfl) (allc (Y.nJ 0 1 rfl rfl rfl) alln)), by first | exact appB q (by decide) | omega, by first | exact appM q | (simp [maxLen]; omega), ?_⟩
            intro sA sC hv6 ow fA gA gB
            have Y : Sy _ _ hv6 [_, _, _] := Y.appS 0 rfl ([(i, k)] : List (Int × Int)) ow fA gA rfl rfl
            exact loopBack hm_2 ⟨_, _, _, _, _, rfl, Y.pick [0, 1] rfl, T.1, rfl⟩ T.2
          · exact loopBack hm ⟨_, _, _, _, _, rfl, Y.pick [0, 1] rfl, T.1, rfl⟩ T.2
      · refine callX_sy (T _ _ _ _ (Y.pick [0] rfl).hp) (fun _ _ ⟨_, _, _, _, _, _, p, _⟩ => p.fr) (allc (Y.nO 1 [0] rfl rfl) alln) ?_
        rintro v hv7 ⟨ra, raA, raL, raC, ra_2, rb, PP, rfl, T⟩
        have Y : Sy _ _ hv7 [_, _] := Y.call2 [0, 1] rfl (A := [_]) rfl rfl PP ⟨rfl, trivial⟩
        clear PP
        obtain rfl := Y.lenS 0 rfl
        refine ⟨ra, _, _, _, rb, rfl, ?_⟩
        intro hv8
        have Y : Sy _ _ hv8 [_, _] := ((Y.stJ 1 rfl _ _).stJ 1 rfl _ _)
        clear_value hv8
        exact ⟨_, _, _, _, _, _, Y.pick [0] rfl, rfl, T⟩
/-- tracery/traceryref5.sides -/
def S132 (a : Int) (b : Int) (h : Heap) (R : Value → Heap → Prop) : Prop :=
  let hv : Heap := h.push (.cells #[.int .i64 0, .slice none 0 0] 26)
  cnd (decide ((IntKind.i64.wrap (a * b)) > (3072 : Int)))
    (let hv2 : Heap := hset (hset hv h.size 0 (.int .i64 0)) h.size (0 + 1) (.slice none 0 0)
    R (.tuple #[.agg #[.int .i64 0, .slice none 0 0], .int .i64 3]) hv2)
    (∃ (Iv : List Value → Heap → Prop) (m : List Value → Heap → Nat), Iv [.slice none 0 0, .int .i64 0] hv ∧ -- loop 0: ['l', 'i']
    ∀ (lA : Option Addr) (lL lC : Nat), ∀ i : Int, ∀ hv3, Iv [.slice lA lL lC, .int .i64 i] hv3 →
    cnd (decide (i < a))
      (∃ (Iv2 : List Value → Heap → Prop) (m2 : List Value → Heap → Nat), Iv2 [.slice lA lL lC, .int .i64 0] hv3 ∧ -- loop 2: ['l', 'k']
      ∀ (lA2 : Option Addr) (lL2 lC2 : Nat), ∀ k : Int, ∀ hv4, Iv2 [.slice lA2 lL2 lC2, .int .i64 k] hv4 →
      cnd (decide (k < b))
        (let hv5 : Heap := hv4.push (.cells #[.int .i64 i, .int .i64 (IntKind.i64.wrap (a + k))] 35)
        ∃ old, Ownd hv5 35 2 lA2 lL2 lC2 old ∧ (∀ b ∈ ([hv4.size, h.size] : List Nat), b ∉ blkOf lA2) ∧ (lL2 + 1) * 16 ≤ 140737488355328 ∧ (lL2 + 1) ≤ maxLen ∧
        ∀ sA sC hv6, Ownd hv6 35 2 sA (lL2 + 1) sC (old ++ [.int .i64 i, .int .i64 (IntKind.i64.wrap (a + k))]) → Fr (blkOf lA2) hv5 hv6 → ((sA = lA2 ∧ sC = lC2) ∨ ∃ g, sA = some ⟨g, 0, none⟩ ∧ hv5.size ≤ g) → (lC2 < (lL2 + 1) → Fr [] hv5 hv6) →
        Iv2 [.slice sA (lL2 + 1) sC, .int .i64 (IntKind.i64.wrap (k + (1 : Int)))] hv6 ∧ m2 [.slice sA (lL2 + 1) sC, .int .i64 (IntKind.i64.wrap (k + (1 : Int)))] hv6 < m2 [.slice lA2 lL2 lC2, .int .i64 k] hv4)
        (Iv [.slice lA2 lL2 lC2, .int .i64 (IntKind.i64.wrap (i + (1 : Int)))] hv4 ∧ m [.slice lA2 lL2 lC2, .int .i64 (IntKind.i64.wrap (i + (1 : Int)))] hv4 < m [.slice lA lL lC, .int .i64 i] hv3))
      (callX Try.prog 129 #[.int .i64 (IntKind.i64.wrap (a + b)), .slice lA lL lC] hv3 [h.size] fun v hv7 =>
      ∃ ra : Int, ∃ (raA : Option Addr) (raL raC : Nat), ∃ rb : Int, v = .tuple #[.agg #[.int .i64 ra, .slice raA raL raC], .int .i64 rb] ∧
      let hv8 : Heap := hset (hset hv7 h.size 0 (.int .i64 ra)) h.size (0 + 1) (.slice raA raL raC)
      R (.tuple #[.agg #[.int .i64 ra, .slice raA raL raC], .int .i64 rb]) hv8))
theorem calls132 {h : Heap} {R : Value → Heap → Prop} (a : Int) (b : Int) (H : S132 a b h R) : CallsH Try.prog 132 #[.int .i64 a, .int .i64 b] h R := by
  have e : S132 a b h R = FX (envX [4, 30] 39) { loops := [(0, ⟨[0, 1, 4], [6, 7], [4], []⟩), (2, ⟨[0, 1, 4, 7], [6, 8], [4], []⟩)], joins := [], blocks := [], draws := [] } Try.f132 (Try.f132.body.getD .skip) [.int .i64 a, .int .i64 b] h R := by kernel_rfl
  exact calls_of_FX (envX_ok _ _) Try.func132 (by kernel_rfl) (by kernel_rfl) (by kernel_rfl) (e ▸ H)
/-- tracery/traceryref5.sides -/
def Ok132 (a : Int) (b : Int) (R : Int → List (Int × Int) → Int → Prop) : Prop :=
  ∀ (h : Heap), Hp h [] → CallsH Try.prog 132 #[.int .i64 a, .int .i64 b] h fun v h' => ∃ (nV : Int) (edgesVA : Option Addr) (edgesVL edgesVC : Nat) (edgesV : List (Int × Int)) (rbV : Int), Sy h [] h' [Ck.sl eP 35 edgesVA edgesVL edgesVC edgesV] ∧ v = .tuple #[.agg #[.int .i64 nV, .slice edgesVA edgesVL edgesVC], .int .i64 rbV] ∧ R nV edgesV rbV
theorem Ok132.mono {a b} {R R' : Int → List (Int × Int) → Int → Prop} (H : Ok132 a b R) (kz : ∀ nV edgesV rbV, R nV edgesV rbV → R' nV edgesV rbV) : Ok132 a b R' :=
  fun h  hp => (H h  hp).mono fun _ _ ⟨nV, edgesVA, edgesVL, edgesVC, edgesV, rbV, P, e, q⟩ => ⟨nV, edgesVA, edgesVL, edgesVC, edgesV, rbV, P, e, kz _ _ _ q⟩
def T132 (a : Int) (b : Int) (R : Int → List (Int × Int) → Int → Prop) : Prop :=
  cnd (decide ((IntKind.i64.wrap (a * b)) > (3072 : Int)))
    (R 0 ([] : List (Int × Int)) 3)
    (∃ (Iv : List (Int × Int) → Int → Prop) (m : List (Int × Int) → Int → Nat), Iv ([] : List (Int × Int)) 0 ∧
    ∀ l : List (Int × Int), ∀ i : Int, Iv l i →
    cnd (decide (i < a))
      (∃ (Iv2 : List (Int × Int) → Int → Prop) (m2 : List (Int × Int) → Int → Nat), Iv2 l 0 ∧
      ∀ l_2 : List (Int × Int), ∀ k : Int, Iv2 l_2 k →
      cnd (decide (k < b))
        ((l_2.length + 1) < 1000000000000 ∧ Iv2 (l_2 ++ [(i, (IntKind.i64.wrap (a + k)))]) (IntKind.i64.wrap (k + (1 : Int))) ∧ m2 (l_2 ++ [(i, (IntKind.i64.wrap (a + k)))]) (IntKind.i64.wrap (k + (1 : Int))) < m2 l_2 k)
        (Iv l_2 (IntKind.i64.wrap (i + (1 : Int))) ∧ m l_2 (IntKind.i64.wrap (i + (1 : Int))) < m l i))
      (Ok129 (IntKind.i64.wrap (a + b)) l (fun ra ra_2 rb =>
      R ra ra_2 rb)))
theorem ok132 {a b} {R : Int → List (Int × Int) → Int → Prop} (T : T132 a b R) : Ok132 a b R := by
  intro h  H
  have Y : Sy h [] h _ := Sy.startM H rfl
  apply calls132
  unfold S132
  unfold T132 at T
  intro hv
  have Y : Sy _ _ hv [_] := Y.junk _
  clear_value hv
  refine cnd_imp T (fun T => ?_) (fun T => ?_)
  · intro hv2
    have Y : Sy _ _ hv2 [_] := ((Y.stJ 0 rfl _ _).stJ 0 rfl _ _)
    clear_value hv2
    have Y : Sy _ _ _ [_, _] := Y.nilS eP 35
    exact ⟨_, _, _, _, _, _, Y.pick [1] rfl, rfl, T⟩
  · have Y : Sy _ _ _ [_, _] := Y.nilS eP 35
    obtain ⟨Iv, m, T0, T1⟩ := T
    obtain ⟨B, hB, YB⟩ := Y.cut [1] [0] rfl
    obtain ⟨JJ, hJJ⟩ : ∃ JJ : Nat → List Value → Heap → Prop, JJ = (fun k_2 lz h' => ∃ (lA : Option Addr) (lL lC : Nat) (l : List (Int × Int)) (i : Int), lz = [.slice lA lL lC, .int .i64 i] ∧ Sy h [] h' ([Ck.sl eP 35 lA lL lC l] ++ B) ∧ Iv l i ∧ m l i = k_2) := ⟨_, rfl⟩
    refine ⟨fun lz h' => ∃ k_2, JJ k_2 lz h', Lm JJ, ?_, ?_⟩
    · subst hJJ hB
      exact ⟨_, _, _, _, _, _, rfl, YB, T0, rfl⟩
    · clear YB T0 Y
      intro lA lL lC i hv3 hI
      obtain ⟨k_2, hI, hm⟩ := loopIn hI
      subst hJJ hB
      obtain ⟨lA, lL, lC, l, i, e, Y, T, rfl⟩ := hI
      cases e
      obtain rfl := Y.lenS 0 rfl
      replace T := T1 l i T
      have Y : Sy _ _ _ [_, _] := Y
      refine cnd_imp T (fun T => ?_) (fun T => ?_)
      · obtain ⟨Iv2, m2, T0, T1⟩ := T
        obtain ⟨B_2, hB_2, YB⟩ := Y.cut [0] [1] rfl
        obtain ⟨JJ_2, hJJ_2⟩ : ∃ JJ_2 : Nat → List Value → Heap → Prop, JJ_2 = (fun k_3 lz h' => ∃ (lA2 : Option Addr) (lL2 lC2 : Nat) (l_2 : List (Int × Int)) (k : Int), lz = [.slice lA2 lL2 lC2, .int .i64 k] ∧ Sy h [] h' ([Ck.sl eP 35 lA2 lL2 lC2 l_2] ++ B_2) ∧ Iv2 l_2 k ∧ m2 l_2 k = k_3) := ⟨_, rfl⟩
        refine ⟨fun lz h' => ∃ k_3, JJ_2 k_3 lz h', Lm JJ_2, ?_, ?_⟩
        · subst hJJ_2 hB_2
          exact ⟨_, _, _, _, _, _, rfl, YB, T0, rfl⟩
        · clear YB T0 Y
          intro lA2 lL2 lC2 k hv4 hI
          obtain ⟨k_3, hI, hm_2⟩ := loopIn hI
          subst hJJ_2 hB_2
          obtain ⟨lA2, lL2, lC2, l_2, k, e, Y, T, rfl⟩ := hI
          cases e
          obtain rfl := Y.lenS 0 rfl
          replace T := T1 l_2 k T
          have Y : Sy _ _ _ [_, _] := Y
          refine cnd_imp T (fun T => ?_) (fun T => ?_)
          · intro hv5
            have Y : Sy _ _ hv5 [_, _, _] := Y.junk _
            clear_value hv5
            obtain ⟨q, T⟩ := T
            refine ⟨_, Y.ownS 0 rfl, (allc (Y.nJ 0 2 rfl rfl rfl) (allc (Y.nJ 0 1 rfl rfl rfl) alln)), by first | exact appB q (by decide) | omega, by first | exact appM q | (simp [maxLen]; omega), ?_⟩
            intro sA sC hv6 ow fA gA gB
            have Y : Sy _ _ hv6 [_, _, _] := Y.appS 0 rfl ([(i, (IntKind.i64.wrap (a + k)))] : List (Int × Int)) ow fA gA rfl rfl
            exact loopBack hm_2 ⟨_, _, _, _, _, rfl, Y.pick [0, 1] rfl, T.1, rfl⟩ T.2
          · exact loopBack hm ⟨_, _, _, _, _, rfl, Y.pick [0, 1] rfl, T.1, rfl⟩ T.2
      · refine callX_sy (T _ _ _ _ (Y.pick [0] rfl).hp) (fun _ _ ⟨_, _, _, _, _, _, p, _⟩ => p.fr) (allc (Y.nO 1 [0] rfl rfl) alln) ?_
        rintro v hv7 ⟨ra, raA, raL, raC, ra_2, rb, PP, rfl, T⟩
        have Y : Sy _ _ hv7 [_, _] := Y.call2 [0, 1] rfl (A := [_]) rfl rfl PP ⟨rfl, trivial⟩
        clear PP
        obtain rfl := Y.lenS 0 rfl
        refine ⟨ra, _, _, _, rb, rfl, ?_⟩
        intro hv8
        have Y : Sy _ _ hv8 [_, _] := ((Y.stJ 1 rfl _ _).stJ 1 rfl _ _)
        clear_value hv8
        exact ⟨_, _, _, _, _, _, Y.pick [0] rfl, rfl, T⟩
/-- tracery/traceryref5.grid -/
def Ok133 (w : Int) (hv : Int) (R : Int → List (Int × Int) → Int → Prop) : Prop :=
  ∀ (h : Heap), Hp h [] → CallsH Try.prog 133 #[.int .i64 w, .int .i64 hv] h fun v h' => ∃ (nV : Int) (edgesVA : Option Addr) (edgesVL edgesVC : Nat) (edgesV : List (Int × Int)) (rbV : Int), Sy h [] h' [Ck.sl eP 35 edgesVA edgesVL edgesVC edgesV] ∧ v = .tuple #[.agg #[.int .i64 nV, .slice edgesVA edgesVL edgesVC], .int .i64 rbV] ∧ R nV edgesV rbV
theorem Ok133.mono {w hv} {R R' : Int → List (Int × Int) → Int → Prop} (H : Ok133 w hv R) (kz : ∀ nV edgesV rbV, R nV edgesV rbV → R' nV edgesV rbV) : Ok133 w hv R' :=
  fun h  hp => (H h  hp).mono fun _ _ ⟨nV, edgesVA, edgesVL, edgesVC, edgesV, rbV, P, e, q⟩ => ⟨nV, edgesVA, edgesVL, edgesVC, edgesV, rbV, P, e, kz _ _ _ q⟩
/-- tracery/traceryref5.random -/
def Ok134 (n : Int) (m : Int) (seed : Int) (R : Int → List (Int × Int) → Int → Prop) : Prop :=
  ∀ (h : Heap), Hp h [] → CallsH Try.prog 134 #[.int .i64 n, .int .i64 m, .int .u64 seed] h fun v h' => ∃ (nV : Int) (edgesVA : Option Addr) (edgesVL edgesVC : Nat) (edgesV : List (Int × Int)) (rbV : Int), Sy h [] h' [Ck.sl eP 35 edgesVA edgesVL edgesVC edgesV] ∧ v = .tuple #[.agg #[.int .i64 nV, .slice edgesVA edgesVL edgesVC], .int .i64 rbV] ∧ R nV edgesV rbV
theorem Ok134.mono {n m seed} {R R' : Int → List (Int × Int) → Int → Prop} (H : Ok134 n m seed R) (kz : ∀ nV edgesV rbV, R nV edgesV rbV → R' nV edgesV rbV) : Ok134 n m seed R' :=
  fun h  hp => (H h  hp).mono fun _ _ ⟨nV, edgesVA, edgesVL, edgesVC, edgesV, rbV, P, e, q⟩ => ⟨nV, edgesVA, edgesVL, edgesVC, edgesV, rbV, P, e, kz _ _ _ q⟩
/-- tracery/traceryref5.stack -/
def Ok135 (n : Int) (seed : Int) (R : Int → List (Int × Int) → Int → Prop) : Prop :=
  ∀ (h : Heap), Hp h [] → CallsH Try.prog 135 #[.int .i64 n, .int .u64 seed] h fun v h' => ∃ (nV : Int) (edgesVA : Option Addr) (edgesVL edgesVC : Nat) (edgesV : List (Int × Int)) (rbV : Int), Sy h [] h' [Ck.sl eP 35 edgesVA edgesVL edgesVC edgesV] ∧ v = .tuple #[.agg #[.int .i64 nV, .slice edgesVA edgesVL edgesVC], .int .i64 rbV] ∧ R nV edgesV rbV
theorem Ok135.mono {n seed} {R R' : Int → List (Int × Int) → Int → Prop} (H : Ok135 n seed R) (kz : ∀ nV edgesV rbV, R nV edgesV rbV → R' nV edgesV rbV) : Ok135 n seed R' :=
  fun h  hp => (H h  hp).mono fun _ _ ⟨nV, edgesVA, edgesVL, edgesVC, edgesV, rbV, P, e, q⟩ => ⟨nV, edgesVA, edgesVL, edgesVC, edgesV, rbV, P, e, kz _ _ _ q⟩
end Go.Proofs.Ytmcloipjlihhlaa.N
