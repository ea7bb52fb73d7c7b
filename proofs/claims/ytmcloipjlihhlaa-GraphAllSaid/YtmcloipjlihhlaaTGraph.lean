/- Functions: what is left to be shown of each, over memory and without: printed by program, tied to the loaded functions by the kernel. Conditions: none. -/
import Derived.Test.YtmcloipjlihhlaaSEnv
import Derived.Test.YtmcloipjlihhlaaYMore
import Derived.Test.YtmcloipjlihhlaaTMay
import Derived.Test.YtmcloipjlihhlaaSGraph
import Derived.Test.YtmcloipjlihhlaaYGr
namespace Go.Proofs.Ytmcloipjlihhlaa.N
open Go.Proofs.Ytmcloipjlihhlaa
open Go.X
set_option maxRecDepth 100000
set_option linter.unusedVariables false
set_option linter.unusedSimpArgs false
set_option maxHeartbeats 2000000

/-- (*tracery/graph.Graph).none -/
def Ok162v (madeV : Bool) (nodesV : List Bool) (edgesV : List (Int × Int × Bool)) (living0V : Int) (living1V : Int) (marksV : List (Int × Int)) (lastV : Int) (R : Bool → Prop) : Prop :=
  ∀ (h : Heap) (gB gO : Nat) (nodesVA : Option Addr) (nodesVL nodesVC : Nat) (edgesVA : Option Addr) (edgesVL edgesVC : Nat) (undoVA : Option Addr) (undoVL undoVC : Nat) (marksVA : Option Addr) (marksVL marksVC : Nat), Hp h [Ck.vob gB gO [.bool madeV, .slice nodesVA nodesVL nodesVC, .slice edgesVA edgesVL edgesVC, .int .i64 living0V, .int .i64 living1V, .slice undoVA undoVL undoVC, .slice marksVA marksVL marksVC, .int .i64 lastV], Ck.vw eB nodesVA nodesVL nodesVC nodesV, Ck.vw e2B edgesVA edgesVL edgesVC edgesV, Ck.vw eP marksVA marksVL marksVC marksV] → CallsH Try.prog 162 #[.pointer (some ⟨gB, gO, none⟩)] h fun v h' => ∃ (rV : Bool), Sy h [] h' [] ∧ v = .bool rV ∧ R rV
theorem Ok162v.mono {madeV nodesV edgesV living0V living1V marksV lastV} {R R' : Bool → Prop} (H : Ok162v madeV nodesV edgesV living0V living1V marksV lastV R) (kz : ∀ rV, R rV → R' rV) : Ok162v madeV nodesV edgesV living0V living1V marksV lastV R' :=
  fun h gB gO nodesVA nodesVL nodesVC edgesVA edgesVL edgesVC undoVA undoVL undoVC marksVA marksVL marksVC hp => (H h gB gO nodesVA nodesVL nodesVC edgesVA edgesVL edgesVC undoVA undoVL undoVC marksVA marksVL marksVC hp).mono fun _ _ ⟨rV, P, e, q⟩ => ⟨rV, P, e, kz _ q⟩
def T162v (madeV : Bool) (nodesV : List Bool) (edgesV : List (Int × Int × Bool)) (living0V : Int) (living1V : Int) (marksV : List (Int × Int)) (lastV : Int) (R : Bool → Prop) : Prop :=
  cnd (false)
    (R true)
    (R (!madeV))
theorem ok162v {madeV nodesV edgesV living0V living1V marksV lastV} {R : Bool → Prop} (T : T162v madeV nodesV edgesV living0V living1V marksV lastV R) : Ok162v madeV nodesV edgesV living0V living1V marksV lastV R := by
  intro h gB gO nodesVA nodesVL nodesVC edgesVA edgesVL edgesVC undoVA undoVL undoVC marksVA marksVL marksVC H
  have Y : Sy h [] h _ := Sy.startM H rfl
  obtain rfl := Y.lenV 1 rfl
  obtain rfl := Y.lenV 2 rfl
  obtain rfl := Y.lenV 3 rfl
  apply calls162
  unfold S162
  unfold T162v at T
  refine cnd_imp T (fun T => ?_) (fun T => ?_)
  · exact ⟨_, Y.pick [] rfl, rfl, T⟩
  · refine ⟨gB, gO, rfl, ?_⟩
    refine ⟨_, Y.cellW 0 rfl 0 rfl, ?_⟩
    exact ⟨_, Y.pick [] rfl, rfl, T⟩
/-- (*tracery/graph.Graph).node -/
def Ok167v (madeV : Bool) (nodesV : List Bool) (edgesV : List (Int × Int × Bool)) (living0V : Int) (living1V : Int) (marksV : List (Int × Int)) (lastV : Int) (v : Int) (R : Bool → Prop) : Prop :=
  ∀ (h : Heap) (gB gO : Nat) (nodesVA : Option Addr) (nodesVL nodesVC : Nat) (edgesVA : Option Addr) (edgesVL edgesVC : Nat) (undoVA : Option Addr) (undoVL undoVC : Nat) (marksVA : Option Addr) (marksVL marksVC : Nat), Hp h [Ck.vob gB gO [.bool madeV, .slice nodesVA nodesVL nodesVC, .slice edgesVA edgesVL edgesVC, .int .i64 living0V, .int .i64 living1V, .slice undoVA undoVL undoVC, .slice marksVA marksVL marksVC, .int .i64 lastV], Ck.vw eB nodesVA nodesVL nodesVC nodesV, Ck.vw e2B edgesVA edgesVL edgesVC edgesV, Ck.vw eP marksVA marksVL marksVC marksV] → CallsH Try.prog 167 #[.pointer (some ⟨gB, gO, none⟩), .int .i64 v] h fun v h' => ∃ (rV : Bool), Sy h [] h' [] ∧ v = .bool rV ∧ R rV
theorem Ok167v.mono {madeV nodesV edgesV living0V living1V marksV lastV v} {R R' : Bool → Prop} (H : Ok167v madeV nodesV edgesV living0V living1V marksV lastV v R) (kz : ∀ rV, R rV → R' rV) : Ok167v madeV nodesV edgesV living0V living1V marksV lastV v R' :=
  fun h gB gO nodesVA nodesVL nodesVC edgesVA edgesVL edgesVC undoVA undoVL undoVC marksVA marksVL marksVC hp => (H h gB gO nodesVA nodesVL nodesVC edgesVA edgesVL edgesVC undoVA undoVL undoVC marksVA marksVL marksVC hp).mono fun _ _ ⟨rV, P, e, q⟩ => ⟨rV, P, e, kz _ q⟩
def T167v (madeV : Bool) (nodesV : List Bool) (edgesV : List (Int × Int × Bool)) (living0V : Int) (living1V : Int) (marksV : List (Int × Int)) (lastV : Int) (v : Int) (R : Bool → Prop) : Prop :=
  cnd (decide (v ≥ (1 : Int)))
    (cnd (decide (v ≤ ((nodesV.length : Nat) : Int)))
      (0 ≤ (IntKind.i64.wrap (v - (1 : Int))) ∧ (IntKind.i64.wrap (v - (1 : Int))) < ((nodesV.length : Nat) : Int) ∧ ∀ x_2 : Bool, nodesV[(Int.toNat (IntKind.i64.wrap (v - (1 : Int))))]? = some x_2 → R x_2)
      (R false))
    (R false)
theorem ok167v {madeV nodesV edgesV living0V living1V marksV lastV v} {R : Bool → Prop} (T : T167v madeV nodesV edgesV living0V living1V marksV lastV v R) : Ok167v madeV nodesV edgesV living0V living1V marksV lastV v R := by
  intro h gB gO nodesVA nodesVL nodesVC edgesVA edgesVL edgesVC undoVA undoVL undoVC marksVA marksVL marksVC H
  have Y : Sy h [] h _ := Sy.startM H rfl
  obtain rfl := Y.lenV 1 rfl
  obtain rfl := Y.lenV 2 rfl
  obtain rfl := Y.lenV 3 rfl
  apply calls167
  unfold S167
  unfold T167v at T
  refine cnd_imp T (fun T => ?_) (fun T => ?_)
  · refine ⟨gB, gO, rfl, ?_⟩
    refine ⟨_, _, _, Y.cellW 0 rfl 1 rfl, ?_⟩
    refine cnd_imp T (fun T => ?_) (fun T => ?_)
    · refine ⟨gB, gO, rfl, ?_⟩
      refine ⟨_, _, _, Y.cellW 0 rfl 1 rfl, ?_⟩
      obtain ⟨q, q_2, T⟩ := T
      obtain ⟨b_2, o_2, hb, hr, x_2, hx⟩ := Y.atV 1 rfl q q_2
      refine ⟨b_2, o_2, hb, q, q_2, ?_⟩
      replace T := T x_2 hx
      refine ⟨_, Y.cellV 1 rfl hb (t := 0) hx rfl, ?_⟩
      exact ⟨_, Y.pick [] rfl, rfl, T⟩
    · exact ⟨_, Y.pick [] rfl, rfl, T⟩
  · exact ⟨_, Y.pick [] rfl, rfl, T⟩
/-- (*tracery/graph.Graph).at -/
def Ok168v (madeV : Bool) (nodesV : List Bool) (edgesV : List (Int × Int × Bool)) (living0V : Int) (living1V : Int) (marksV : List (Int × Int)) (lastV : Int) (v : Int) (R : List Int → Prop) : Prop :=
  ∀ (h : Heap) (gB gO : Nat) (nodesVA : Option Addr) (nodesVL nodesVC : Nat) (edgesVA : Option Addr) (edgesVL edgesVC : Nat) (undoVA : Option Addr) (undoVL undoVC : Nat) (marksVA : Option Addr) (marksVL marksVC : Nat), Hp h [Ck.vob gB gO [.bool madeV, .slice nodesVA nodesVL nodesVC, .slice edgesVA edgesVL edgesVC, .int .i64 living0V, .int .i64 living1V, .slice undoVA undoVL undoVC, .slice marksVA marksVL marksVC, .int .i64 lastV], Ck.vw eB nodesVA nodesVL nodesVC nodesV, Ck.vw e2B edgesVA edgesVL edgesVC edgesV, Ck.vw eP marksVA marksVL marksVC marksV] → CallsH Try.prog 168 #[.pointer (some ⟨gB, gO, none⟩), .int .i64 v] h fun v h' => ∃ (rVA : Option Addr) (rVL rVC : Nat) (rV : List Int), Sy h [] h' [Ck.sl eI 3 rVA rVL rVC rV] ∧ v = .slice rVA rVL rVC ∧ R rV
theorem Ok168v.mono {madeV nodesV edgesV living0V living1V marksV lastV v} {R R' : List Int → Prop} (H : Ok168v madeV nodesV edgesV living0V living1V marksV lastV v R) (kz : ∀ rV, R rV → R' rV) : Ok168v madeV nodesV edgesV living0V living1V marksV lastV v R' :=
  fun h gB gO nodesVA nodesVL nodesVC edgesVA edgesVL edgesVC undoVA undoVL undoVC marksVA marksVL marksVC hp => (H h gB gO nodesVA nodesVL nodesVC edgesVA edgesVL edgesVC undoVA undoVL undoVC marksVA marksVL marksVC hp).mono fun _ _ ⟨rVA, rVL, rVC, rV, P, e, q⟩ => ⟨rVA, rVL, rVC, rV, P, e, kz _ q⟩
def T168v (madeV : Bool) (nodesV : List Bool) (edgesV : List (Int × Int × Bool)) (living0V : Int) (living1V : Int) (marksV : List (Int × Int)) (lastV : Int) (v : Int) (R : List Int → Prop) : Prop :=
  ∃ (Iv : List Int → Int → Prop) (m : List Int → Int → Nat), Iv ([] : List Int) 0 ∧
  ∀ l : List Int, ∀ x : Int, Iv l x →
  cnd (decide (x < ((edgesV.length : Nat) : Int)))
    (0 ≤ x ∧ x < ((edgesV.length : Nat) : Int) ∧ ∀ x_2 : (Int × Int × Bool), edgesV[(Int.toNat x)]? = some x_2 → cnd x_2.2.2
      (cnd (x_2.1 == v)
        ((l.length + 1) < 1000000000000 ∧ Iv (l ++ [(IntKind.i64.wrap (x + (1 : Int)))]) (IntKind.i64.wrap (x + (1 : Int))) ∧ m (l ++ [(IntKind.i64.wrap (x + (1 : Int)))]) (IntKind.i64.wrap (x + (1 : Int))) < m l x)
        (∃ Jv : List Int → Prop,
        ( cnd (x_2.2.1 == v)
           ((l.length + 1) < 1000000000000 ∧ Jv (l ++ [(IntKind.i64.wrap (x + (1 : Int)))]))
           (Jv l)) ∧
        ∀ l_2 : List Int, Jv l_2 →
        Iv l_2 (IntKind.i64.wrap (x + (1 : Int))) ∧ m l_2 (IntKind.i64.wrap (x + (1 : Int))) < m l x))
      (Iv l (IntKind.i64.wrap (x + (1 : Int))) ∧ m l (IntKind.i64.wrap (x + (1 : Int))) < m l x))
    (R l)
theorem ok168v {madeV nodesV edgesV living0V living1V marksV lastV v} {R : List Int → Prop} (T : T168v madeV nodesV edgesV living0V living1V marksV lastV v R) : Ok168v madeV nodesV edgesV living0V living1V marksV lastV v R := by
  intro h gB gO nodesVA nodesVL nodesVC edgesVA edgesVL edgesVC undoVA undoVL undoVC marksVA marksVL marksVC H
  have Y : Sy h [] h _ := Sy.startM H rfl
  obtain rfl := Y.lenV 1 rfl
  obtain rfl := Y.lenV 2 rfl
  obtain rfl := Y.lenV 3 rfl
  apply calls168
  unfold S168
  unfold T168v at T
  refine ⟨gB, gO, rfl, ?_⟩
  refine ⟨_, _, _, Y.cellW 0 rfl 2 rfl, ?_⟩
  have Y : Sy _ _ _ [_, _, _, _, _] := Y.nilS eI 3
  obtain ⟨Iv, m, T0, T1⟩ := T
  obtain ⟨B, hB, YB⟩ := Y.cut [4] [0, 1, 2, 3] rfl
  obtain ⟨JJ, hJJ⟩ : ∃ JJ : Nat → List Value → Heap → Prop, JJ = (fun k lz h' => ∃ (lA : Option Addr) (lL lC : Nat) (l : List Int) (x : Int), lz = [.slice lA lL lC, .int .i64 x] ∧ Sy h [] h' ([Ck.sl eI 3 lA lL lC l] ++ B) ∧ Iv l x ∧ m l x = k) := ⟨_, rfl⟩
  refine ⟨fun lz h' => ∃ k, JJ k lz h', Lm JJ, ?_, ?_⟩
  · subst hJJ hB
    exact ⟨_, _, _, _, _, _, rfl, YB, T0, rfl⟩
  · clear YB T0 Y
    intro lA lL lC x hv hI
    obtain ⟨k, hI, hm⟩ := loopIn hI
    subst hJJ hB
    obtain ⟨lA, lL, lC, l, x, e, Y, T, rfl⟩ := hI
    cases e
    obtain rfl := Y.lenS 0 rfl
    replace T := T1 l x T
    have Y : Sy _ _ _ [_, _, _, _, _] := Y
    refine cnd_imp T (fun T => ?_) (fun T => ?_)
    · obtain ⟨q, q_2, T⟩ := T
      obtain ⟨b_2, o_2, hb, hr, x_2, hx⟩ := Y.atV 3 rfl q q_2
      refine ⟨b_2, o_2, hb, q, q_2, ?_⟩
      replace T := T x_2 hx
      refine ⟨_, Y.cellV 3 rfl hb (t := 0) hx rfl, ?_⟩
      refine ⟨_, Y.cellV 3 rfl hb (t := 1) hx rfl, ?_⟩
      refine ⟨_, Y.cellV 3 rfl hb (t := 2) hx rfl, ?_⟩
      intro hv2
      have Y : Sy _ _ hv2 [_, _, _, _, _, _] := Y.junk _
      clear_value hv2
      intro hv3
      have Y : Sy _ _ hv3 [_, _, _, _, _, _] := (((Y.stJ 5 rfl _ _).stJ 5 rfl _ _).stJ 5 rfl _ _)
      clear_value hv3
      refine cnd_imp T (fun T => ?_) (fun T => ?_)
      · refine cnd_imp T (fun T => ?_) (fun T => ?_)
        · intro hv4
          have Y : Sy _ _ hv4 [_, _, _, _, _, _, _] := Y.junk _
          clear_value hv4
          obtain ⟨q_3, T⟩ := T
          refine ⟨_, Y.ownS 0 rfl, (allc (Y.nJ 0 6 rfl rfl rfl) (allc (Y.nJ 0 5 rfl rfl rfl) alln)), by first | exact appB q_3 (by decide) | omega, by first | exact appM q_3 | (simp [maxLen]; omega), ?_⟩
          intro sA sC hv5 ow fA gA gB
          have Y : Sy _ _ hv5 [_, _, _, _, _, _, _] := Y.appS 0 rfl ([(IntKind.i64.wrap (x + (1 : Int)))] : List Int) ow fA gA rfl rfl
          exact loopBack hm ⟨_, _, _, _, _, rfl, Y.pick [0, 1, 2, 3, 4] rfl, T.1, rfl⟩ T.2
        · obtain ⟨Jv, T0, T1⟩ := T
          obtain ⟨B_2, hB_2, _⟩ := Y.cut [] [1, 2, 3, 4, 5] rfl
          refine ⟨fun lz h' => ∃ (lA2 : Option Addr) (lL2 lC2 : Nat) (l_2 : List Int), lz = [.slice lA2 lL2 lC2] ∧ Sy h [] h' ([Ck.sl eI 3 lA2 lL2 lC2 l_2] ++ B_2) ∧ Jv l_2, ?_, ?_⟩
          · subst hB_2
            replace T := T0
            clear T0 T1
            refine cnd_imp T (fun T => ?_) (fun T => ?_)
            · intro hv6
              have Y : Sy _ _ hv6 [_, _, _, _, _, _, _] := Y.junk _
              clear_value hv6
              obtain ⟨q_4, T⟩ := T
              refine ⟨_, Y.ownS 0 rfl, (allc (Y.nJ 0 6 rfl rfl rfl) (allc (Y.nJ 0 5 rfl rfl rfl) alln)), by first | exact appB q_4 (by decide) | omega, by first | exact appM q_4 | (simp [maxLen]; omega), ?_⟩
              intro sA2 sC2 hv7 ow fA gA gB
              have Y : Sy _ _ hv7 [_, _, _, _, _, _, _] := Y.appS 0 rfl ([(IntKind.i64.wrap (x + (1 : Int)))] : List Int) ow fA gA rfl rfl
              exact ⟨_, _, _, _, rfl, Y.pick [0, 1, 2, 3, 4, 5] rfl, T⟩
            · exact ⟨_, _, _, _, rfl, Y.pick [0, 1, 2, 3, 4, 5] rfl, T⟩
          · subst hB_2
            clear T0 Y
            rintro lA2 lL2 lC2 hv8 ⟨lA2, lL2, lC2, l_2, e, Y, T⟩
            cases e
            obtain rfl := Y.lenS 0 rfl
            replace T := T1 l_2 T
            have Y : Sy _ _ _ [_, _, _, _, _, _] := Y
            exact loopBack hm ⟨_, _, _, _, _, rfl, Y.pick [0, 1, 2, 3, 4] rfl, T.1, rfl⟩ T.2
      · exact loopBack hm ⟨_, _, _, _, _, rfl, Y.pick [0, 1, 2, 3, 4] rfl, T.1, rfl⟩ T.2
    · exact ⟨_, _, _, _, Y.pick [0] rfl, rfl, T⟩
/-- (*tracery/graph.Graph).Net -/
def Ok79v (madeV : Bool) (nodesV : List Bool) (edgesV : List (Int × Int × Bool)) (living0V : Int) (living1V : Int) (marksV : List (Int × Int)) (lastV : Int) (R : Int → List (Int × Int) → List Int → List Int → Prop) : Prop :=
  ∀ (h : Heap) (gB gO : Nat) (nodesVA : Option Addr) (nodesVL nodesVC : Nat) (edgesVA : Option Addr) (edgesVL edgesVC : Nat) (undoVA : Option Addr) (undoVL undoVC : Nat) (marksVA : Option Addr) (marksVL marksVC : Nat), Hp h [Ck.vob gB gO [.bool madeV, .slice nodesVA nodesVL nodesVC, .slice edgesVA edgesVL edgesVC, .int .i64 living0V, .int .i64 living1V, .slice undoVA undoVL undoVC, .slice marksVA marksVL marksVC, .int .i64 lastV], Ck.vw eB nodesVA nodesVL nodesVC nodesV, Ck.vw e2B edgesVA edgesVL edgesVC edgesV, Ck.vw eP marksVA marksVL marksVC marksV] → CallsH Try.prog 79 #[.pointer (some ⟨gB, gO, none⟩)] h fun v h' => ∃ (nV : Int) (edgesVA2 : Option Addr) (edgesVL2 edgesVC2 : Nat) (edgesV2 : List (Int × Int)) (rbVA : Option Addr) (rbVL rbVC : Nat) (rbV : List Int) (rcVA : Option Addr) (rcVL rcVC : Nat) (rcV : List Int), Sy h [] h' [Ck.sl eP 35 edgesVA2 edgesVL2 edgesVC2 edgesV2, Ck.sl eI 3 rbVA rbVL rbVC rbV, Ck.sl eI 3 rcVA rcVL rcVC rcV] ∧ v = .tuple #[.agg #[.int .i64 nV, .slice edgesVA2 edgesVL2 edgesVC2], .slice rbVA rbVL rbVC, .slice rcVA rcVL rcVC] ∧ R nV edgesV2 rbV rcV
theorem Ok79v.mono {madeV nodesV edgesV living0V living1V marksV lastV} {R R' : Int → List (Int × Int) → List Int → List Int → Prop} (H : Ok79v madeV nodesV edgesV living0V living1V marksV lastV R) (kz : ∀ nV edgesV2 rbV rcV, R nV edgesV2 rbV rcV → R' nV edgesV2 rbV rcV) : Ok79v madeV nodesV edgesV living0V living1V marksV lastV R' :=
  fun h gB gO nodesVA nodesVL nodesVC edgesVA edgesVL edgesVC undoVA undoVL undoVC marksVA marksVL marksVC hp => (H h gB gO nodesVA nodesVL nodesVC edgesVA edgesVL edgesVC undoVA undoVL undoVC marksVA marksVL marksVC hp).mono fun _ _ ⟨nV, edgesVA2, edgesVL2, edgesVC2, edgesV2, rbVA, rbVL, rbVC, rbV, rcVA, rcVL, rcVC, rcV, P, e, q⟩ => ⟨nV, edgesVA2, edgesVL2, edgesVC2, edgesV2, rbVA, rbVL, rbVC, rbV, rcVA, rcVL, rcVC, rcV, P, e, kz _ _ _ _ q⟩
def T79v (madeV : Bool) (nodesV : List Bool) (edgesV : List (Int × Int × Bool)) (living0V : Int) (living1V : Int) (marksV : List (Int × Int)) (lastV : Int) (R : Int → List (Int × Int) → List Int → List Int → Prop) : Prop :=
  Ok162v madeV nodesV edgesV living0V living1V marksV lastV (fun r =>
  cnd r
    (R 0 ([] : List (Int × Int)) ([] : List Int) ([] : List Int))
    (0 ≤ (IntKind.i64.wrap (((nodesV.length : Nat) : Int) + (1 : Int))) ∧ (IntKind.i64.wrap (((nodesV.length : Nat) : Int) + (1 : Int))) ≤ 1000000000000 ∧ ∃ (Iv : List Int → Int → Int → List (Int × Int) → List Int → Prop) (m : List Int → Int → Int → List (Int × Int) → List Int → Nat), Iv ([] : List Int) 0 0 ([] : List (Int × Int)) (List.replicate (Int.toNat (IntKind.i64.wrap (((nodesV.length : Nat) : Int) + (1 : Int)))) (0 : Int)) ∧
    ∀ nodes : List Int, ∀ x : Int, ∀ c0 : Int, ∀ c1 : List (Int × Int), ∀ x_2 : List Int, Iv nodes x c0 c1 x_2 →
    cnd (decide (x < ((nodesV.length : Nat) : Int)))
      (0 ≤ x ∧ x < ((nodesV.length : Nat) : Int) ∧ ∀ x_3 : Bool, nodesV[(Int.toNat x)]? = some x_3 → ∃ Jv : List Int → Int → List (Int × Int) → List Int → Prop,
      ( cnd x_3
         (0 ≤ (IntKind.i64.wrap (x + (1 : Int))) ∧ (IntKind.i64.wrap (x + (1 : Int))) < (((Int.toNat (IntKind.i64.wrap (((nodesV.length : Nat) : Int) + (1 : Int)))) : Nat) : Int) ∧ (nodes.length + 1) < 1000000000000 ∧ Jv (nodes ++ [(IntKind.i64.wrap (x + (1 : Int)))]) (IntKind.i64.wrap (c0 + (1 : Int))) c1 (x_2.set (Int.toNat (IntKind.i64.wrap (x + (1 : Int)))) c0))
         (Jv nodes c0 c1 x_2)) ∧
      ∀ nodes_2 : List Int, ∀ c0_2 : Int, ∀ c1_2 : List (Int × Int), ∀ x_2_2 : List Int, Jv nodes_2 c0_2 c1_2 x_2_2 →
      Iv nodes_2 (IntKind.i64.wrap (x + (1 : Int))) c0_2 c1_2 x_2_2 ∧ m nodes_2 (IntKind.i64.wrap (x + (1 : Int))) c0_2 c1_2 x_2_2 < m nodes x c0 c1 x_2)
      (∃ (Iv2 : List Int → Int → Int → List (Int × Int) → Prop) (m2 : List Int → Int → Int → List (Int × Int) → Nat), Iv2 ([] : List Int) 0 c0 c1 ∧
      ∀ edges : List Int, ∀ x3 : Int, ∀ c0_3 : Int, ∀ c1_3 : List (Int × Int), Iv2 edges x3 c0_3 c1_3 →
      cnd (decide (x3 < ((edgesV.length : Nat) : Int)))
        (0 ≤ x3 ∧ x3 < ((edgesV.length : Nat) : Int) ∧ ∀ x_5 : (Int × Int × Bool), edgesV[(Int.toNat x3)]? = some x_5 → ∃ Jv2 : List Int → Int → List (Int × Int) → Prop,
        ( cnd x_5.2.2
           (0 ≤ x_5.1 ∧ x_5.1 < (((Int.toNat (IntKind.i64.wrap (((nodesV.length : Nat) : Int) + (1 : Int)))) : Nat) : Int) ∧ ∀ x_6 : Int, x_2[(Int.toNat x_5.1)]? = some x_6 → 0 ≤ x_5.2.1 ∧ x_5.2.1 < (((Int.toNat (IntKind.i64.wrap (((nodesV.length : Nat) : Int) + (1 : Int)))) : Nat) : Int) ∧ ∀ x_7 : Int, x_2[(Int.toNat x_5.2.1)]? = some x_7 → (c1_3.length + 1) < 1000000000000 ∧ (edges.length + 1) < 1000000000000 ∧ Jv2 (edges ++ [(IntKind.i64.wrap (x3 + (1 : Int)))]) c0_3 (c1_3 ++ [(x_6, x_7)]))
           (Jv2 edges c0_3 c1_3)) ∧
        ∀ edges_2 : List Int, ∀ c0_4 : Int, ∀ c1_4 : List (Int × Int), Jv2 edges_2 c0_4 c1_4 →
        Iv2 edges_2 (IntKind.i64.wrap (x3 + (1 : Int))) c0_4 c1_4 ∧ m2 edges_2 (IntKind.i64.wrap (x3 + (1 : Int))) c0_4 c1_4 < m2 edges x3 c0_3 c1_3)
        (R c0_3 c1_3 nodes edges))))
theorem ok79v {madeV nodesV edgesV living0V living1V marksV lastV} {R : Int → List (Int × Int) → List Int → List Int → Prop} (T : T79v madeV nodesV edgesV living0V living1V marksV lastV R) : Ok79v madeV nodesV edgesV living0V living1V marksV lastV R := by
  intro h gB gO nodesVA nodesVL nodesVC edgesVA edgesVL edgesVC undoVA undoVL undoVC marksVA marksVL marksVC H
  have Y : Sy h [] h _ := Sy.startM H rfl
  obtain rfl := Y.lenV 1 rfl
  obtain rfl := Y.lenV 2 rfl
  obtain rfl := Y.lenV 3 rfl
  apply calls79
  unfold S79
  unfold T79v at T
  intro hv
  have Y : Sy _ _ hv [_, _, _, _, _] := Y.junk _
  clear_value hv
  refine callX_sy (T _ _ _ _ _ _ _ _ _ _ _ _ _ _ _ (Y.pick [0, 1, 2, 3] rfl).hp) (fun _ _ ⟨_, p, _⟩ => p.fr) (allc (fun h => by cases h) alln) ?_
  rintro v hv2 ⟨r, PP, rfl, T⟩
  have Y : Sy _ _ hv2 [_, _, _, _, _] := Y.gr PP.fr
  clear PP
  refine ⟨r, rfl, ?_⟩
  refine cnd_imp T (fun T => ?_) (fun T => ?_)
  · intro hv3
    have Y : Sy _ _ hv3 [_, _, _, _, _] := ((Y.stJ 4 rfl _ _).stJ 4 rfl _ _)
    clear_value hv3
    have Y : Sy _ _ _ [_, _, _, _, _, _] := Y.nilS eP 35
    have Y : Sy _ _ _ [_, _, _, _, _, _, _] := Y.nilS eI 3
    have Y : Sy _ _ _ [_, _, _, _, _, _, _, _] := Y.nilS eI 3
    exact ⟨_, _, _, _, _, _, _, _, _, _, _, _, _, Y.pick [5, 6, 7] rfl, rfl, T⟩
  · intro hv4
    have Y : Sy _ _ hv4 [_, _, _, _, _, _] := Y.junk _
    clear_value hv4
    refine ⟨gB, gO, rfl, ?_⟩
    refine ⟨_, _, _, Y.cellW 0 rfl 1 rfl, ?_⟩
    obtain ⟨q, q_3, T⟩ := T
    refine ⟨q, Int.le_refl _, by omega, by omega, ?_⟩
    intro hv5
    have Y : Sy _ _ hv5 [_, _, _, _, _, _, _] := Y.mkS (E := eI) (ty := 3) (0 : Int) (Int.toNat (IntKind.i64.wrap (((nodesV.length : Nat) : Int) + (1 : Int)))) (Int.toNat (IntKind.i64.wrap (((nodesV.length : Nat) : Int) + (1 : Int)))) (Nat.le_refl _) (by simp [maxLen]; omega)
    clear_value hv5
    refine ⟨gB, gO, rfl, ?_⟩
    refine ⟨_, _, _, Y.cellW 0 rfl 1 rfl, ?_⟩
    have Y : Sy _ _ _ [_, _, _, _, _, _, _, _] := Y.nilS eI 3
    have Y : Sy _ _ _ [_, _, _, _, _, _, _, _, _] := Y.nilS eP 35
    obtain ⟨Iv, m, T0, T1⟩ := T
    obtain ⟨B, hB, YB⟩ := Y.cut [7, 8, 6] [0, 1, 2, 3, 4, 5] rfl
    obtain ⟨F, hF⟩ := Y.fnS (k := 6) rfl
    obtain ⟨JJ, hJJ⟩ : ∃ JJ : Nat → List Value → Heap → Prop, JJ = (fun k lz h' => ∃ (nodesA : Option Addr) (nodesL nodesC : Nat) (nodes : List Int) (x : Int) (c0 : Int) (c1A : Option Addr) (c1L c1C : Nat) (c1 : List (Int × Int)) (x_2 : List Int), lz = [.slice nodesA nodesL nodesC, .int .i64 x, .int .i64 c0, .slice c1A c1L c1C] ∧ Sy h [] h' ([Ck.sl eI 3 nodesA nodesL nodesC nodes, Ck.sl eP 35 c1A c1L c1C c1, F x_2] ++ B) ∧ Iv nodes x c0 c1 x_2 ∧ m nodes x c0 c1 x_2 = k) := ⟨_, rfl⟩
    refine ⟨fun lz h' => ∃ k, JJ k lz h', Lm JJ, ?_, ?_⟩
    · subst hJJ hB hF
      exact ⟨_, _, _, _, _, _, _, _, _, _, _, _, rfl, YB, T0, rfl⟩
    · clear YB T0 Y
      intro nodesA nodesL nodesC x c0 c1A c1L c1C hv6 hI
      obtain ⟨k, hI, hm⟩ := loopIn hI
      subst hJJ hB hF
      obtain ⟨nodesA, nodesL, nodesC, nodes, x, c0, c1A, c1L, c1C, c1, x_2, e, Y, T, rfl⟩ := hI
      cases e
      obtain rfl := Y.lenS 0 rfl
      obtain rfl := Y.lenS 1 rfl
      replace T := T1 nodes x c0 c1 x_2 T
      have Y : Sy _ _ _ [_, _, _, _, _, _, _, _, _] := Y
      refine cnd_imp T (fun T => ?_) (fun T => ?_)
      · obtain ⟨q_4, q_5, T⟩ := T
        obtain ⟨b_2, o_2, hb, hr, x_3, hx⟩ := Y.atV 4 rfl q_4 q_5
        refine ⟨b_2, o_2, hb, q_4, q_5, ?_⟩
        replace T := T x_3 hx
        refine ⟨_, Y.cellV 4 rfl hb (t := 0) hx rfl, ?_⟩
        obtain ⟨Jv, T0, T1⟩ := T
        obtain ⟨B_2, hB_2, _⟩ := Y.cut [] [3, 4, 5, 6, 7, 8] rfl
        obtain ⟨F_2, hF_2⟩ := Y.fnS (k := 2) rfl
        refine ⟨fun lz h' => ∃ (nodesA2 : Option Addr) (nodesL2 nodesC2 : Nat) (nodes_2 : List Int) (c0_2 : Int) (c1A2 : Option Addr) (c1L2 c1C2 : Nat) (c1_2 : List (Int × Int)) (x_2_2 : List Int), lz = [.slice nodesA2 nodesL2 nodesC2, .int .i64 c0_2, .slice c1A2 c1L2 c1C2] ∧ Sy h [] h' ([Ck.sl eI 3 nodesA2 nodesL2 nodesC2 nodes_2, Ck.sl eP 35 c1A2 c1L2 c1C2 c1_2, F_2 x_2_2] ++ B_2) ∧ Jv nodes_2 c0_2 c1_2 x_2_2, ?_, ?_⟩
        · subst hB_2 hF_2
          replace T := T0
          clear T0 T1
          refine cnd_imp T (fun T => ?_) (fun T => ?_)
          · obtain ⟨q_6, q_7, T⟩ := T
            obtain ⟨b_3, hb_2, ho, x_4, hx_2⟩ := Y.atS 2 rfl q_6 q_7
            refine ⟨b_3, 0, hb_2, q_6, q_7, ?_⟩
            refine ⟨(Y.neJ 2 8 rfl rfl rfl ho), (Y.neJ 2 7 rfl rfl rfl ho), Y.cellEx 2 rfl hb_2 (t := 0) (by omega) (by decide), Y.freeS 2 rfl hb_2 _, ?_⟩
            intro hv7
            have Y : Sy _ _ hv7 [_, _, _, _, _, _, _, _, _] := Y.st1 2 rfl hb_2 c0 (by omega) rfl
            clear_value hv7
            intro hv8
            have Y : Sy _ _ hv8 [_, _, _, _, _, _, _, _, _] := (Y.stJ 8 rfl _ _)
            clear_value hv8
            intro hv9
            have Y : Sy _ _ hv9 [_, _, _, _, _, _, _, _, _, _] := Y.junk _
            clear_value hv9
            obtain ⟨q_8, T⟩ := T
            refine ⟨_, Y.ownS 0 rfl, (allc (Y.nJ 0 9 rfl rfl rfl) (allc (Y.nJ 0 8 rfl rfl rfl) (allc (Y.nJ 0 7 rfl rfl rfl) alln))), by first | exact appB q_8 (by decide) | omega, by first | exact appM q_8 | (simp [maxLen]; omega), ?_⟩
            intro sA sC hv10 ow fA gA gB
            have Y : Sy _ _ hv10 [_, _, _, _, _, _, _, _, _, _] := Y.appS 0 rfl ([(IntKind.i64.wrap (x + (1 : Int)))] : List Int) ow fA gA rfl rfl
            exact ⟨_, _, _, _, _, _, _, _, _, _, rfl, Y.pick [0, 1, 2, 3, 4, 5, 6, 7, 8] rfl, T⟩
          · exact ⟨_, _, _, _, _, _, _, _, _, _, rfl, Y.pick [0, 1, 2, 3, 4, 5, 6, 7, 8] rfl, T⟩
        · subst hB_2 hF_2
          clear T0 Y
          rintro nodesA2 nodesL2 nodesC2 c0_2 c1A2 c1L2 c1C2 hv11 ⟨nodesA2, nodesL2, nodesC2, nodes_2, c0_2, c1A2, c1L2, c1C2, c1_2, x_2_2, e, Y, T⟩
          cases e
          obtain rfl := Y.lenS 0 rfl
          obtain rfl := Y.lenS 1 rfl
          replace T := T1 nodes_2 c0_2 c1_2 x_2_2 T
          have Y : Sy _ _ _ [_, _, _, _, _, _, _, _, _] := Y
          exact loopBack hm ⟨_, _, _, _, _, _, _, _, _, _, _, rfl, Y.pick [0, 1, 2, 3, 4, 5, 6, 7, 8] rfl, T.1, rfl⟩ T.2
      · refine ⟨gB, gO, rfl, ?_⟩
        refine ⟨_, _, _, Y.cellW 3 rfl 2 rfl, ?_⟩
        have Y : Sy _ _ _ [_, _, _, _, _, _, _, _, _, _] := Y.nilS eI 3
        obtain ⟨Iv2, m2, T0, T1⟩ := T
        obtain ⟨B_3, hB_3, YB⟩ := Y.cut [9, 1] [0, 2, 3, 4, 5, 6, 7, 8] rfl
        obtain ⟨JJ_2, hJJ_2⟩ : ∃ JJ_2 : Nat → List Value → Heap → Prop, JJ_2 = (fun k_2 lz h' => ∃ (edgesA : Option Addr) (edgesL edgesC : Nat) (edges : List Int) (x3 : Int) (c0_3 : Int) (c1A3 : Option Addr) (c1L3 c1C3 : Nat) (c1_3 : List (Int × Int)), lz = [.slice edgesA edgesL edgesC, .int .i64 x3, .int .i64 c0_3, .slice c1A3 c1L3 c1C3] ∧ Sy h [] h' ([Ck.sl eI 3 edgesA edgesL edgesC edges, Ck.sl eP 35 c1A3 c1L3 c1C3 c1_3] ++ B_3) ∧ Iv2 edges x3 c0_3 c1_3 ∧ m2 edges x3 c0_3 c1_3 = k_2) := ⟨_, rfl⟩
        refine ⟨fun lz h' => ∃ k_2, JJ_2 k_2 lz h', Lm JJ_2, ?_, ?_⟩
        · subst hJJ_2 hB_3
          exact ⟨_, _, _, _, _, _, _, _, _, _, _, rfl, YB, T0, rfl⟩
        · clear YB T0 Y
          intro edgesA edgesL edgesC x3 c0_3 c1A3 c1L3 c1C3 hv12 hI
          obtain ⟨k_2, hI, hm_2⟩ := loopIn hI
          subst hJJ_2 hB_3
          obtain ⟨edgesA, edgesL, edgesC, edges, x3, c0_3, c1A3, c1L3, c1C3, c1_3, e, Y, T, rfl⟩ := hI
          cases e
          obtain rfl := Y.lenS 0 rfl
          obtain rfl := Y.lenS 1 rfl
          replace T := T1 edges x3 c0_3 c1_3 T
          have Y : Sy _ _ _ [_, _, _, _, _, _, _, _, _, _] := Y
          refine cnd_imp T (fun T => ?_) (fun T => ?_)
          · obtain ⟨q_9, q_10, T⟩ := T
            obtain ⟨b_4, o_3, hb_3, hr_2, x_5, hx_3⟩ := Y.atV 6 rfl q_9 q_10
            refine ⟨b_4, o_3, hb_3, q_9, q_10, ?_⟩
            replace T := T x_5 hx_3
            refine ⟨_, Y.cellV 6 rfl hb_3 (t := 0) hx_3 rfl, ?_⟩
            refine ⟨_, Y.cellV 6 rfl hb_3 (t := 1) hx_3 rfl, ?_⟩
            refine ⟨_, Y.cellV 6 rfl hb_3 (t := 2) hx_3 rfl, ?_⟩
            intro hv13
            have Y : Sy _ _ hv13 [_, _, _, _, _, _, _, _, _, _, _] := Y.junk _
            clear_value hv13
            intro hv14
            have Y : Sy _ _ hv14 [_, _, _, _, _, _, _, _, _, _, _] := (((Y.stJ 10 rfl _ _).stJ 10 rfl _ _).stJ 10 rfl _ _)
            clear_value hv14
            obtain ⟨Jv2, T0, T1⟩ := T
            obtain ⟨B_4, hB_4, _⟩ := Y.cut [] [2, 3, 4, 5, 6, 7, 8, 9, 10] rfl
            refine ⟨fun lz h' => ∃ (edgesA2 : Option Addr) (edgesL2 edgesC2 : Nat) (edges_2 : List Int) (c0_4 : Int) (c1A4 : Option Addr) (c1L4 c1C4 : Nat) (c1_4 : List (Int × Int)), lz = [.slice edgesA2 edgesL2 edgesC2, .int .i64 c0_4, .slice c1A4 c1L4 c1C4] ∧ Sy h [] h' ([Ck.sl eI 3 edgesA2 edgesL2 edgesC2 edges_2, Ck.sl eP 35 c1A4 c1L4 c1C4 c1_4] ++ B_4) ∧ Jv2 edges_2 c0_4 c1_4, ?_, ?_⟩
            · subst hB_4
              replace T := T0
              clear T0 T1
              refine cnd_imp T (fun T => ?_) (fun T => ?_)
              · have Y0 := Y
                have F : Fr [] hv14 hv14 := Fr.refl _ _
                obtain ⟨q_11, q_12, T⟩ := T
                obtain ⟨b_5, hb_4, ho_2, x_6, hx_4⟩ := Y0.atS 3 rfl q_11 q_12
                refine ⟨b_5, 0, hb_4, q_11, q_12, ?_⟩
                replace T := T x_6 hx_4
                refine ⟨_, Y0.cellS 3 rfl hb_4 (t := 0) hx_4 rfl, ?_⟩
                obtain ⟨q_13, q_14, T⟩ := T
                obtain ⟨b_6, hb_5, ho_3, x_7, hx_5⟩ := Y0.atS 3 rfl q_13 q_14
                refine ⟨b_6, 0, hb_5, q_13, q_14, ?_⟩
                replace T := T x_7 hx_5
                refine ⟨_, Y0.cellS 3 rfl hb_5 (t := 0) hx_5 rfl, ?_⟩
                intro hv15
                have Y : Sy _ _ hv15 [_, _, _, _, _, _, _, _, _, _, _, _] := Y.junk _
                have F : Fr _ _ hv15 := F.pushr _
                have fshv15 := F.size
                clear_value hv15
                refine ⟨F, ?_⟩
                obtain ⟨q_15, T⟩ := T
                refine ⟨_, Y.ownS 1 rfl, (allc (Y.nJ 1 11 rfl rfl rfl) (allc (Y.nJ 1 10 rfl rfl rfl) (allc (Y.nJ 1 9 rfl rfl rfl) (allc (Y.nJ 1 8 rfl rfl rfl) alln)))), by first | exact appB q_15 (by decide) | omega, by first | exact appM q_15 | (simp [maxLen]; omega), ?_⟩
                intro sA2 sC2 hv16 ow fA gA gB
                have Y : Sy _ _ hv16 [_, _, _, _, _, _, _, _, _, _, _, _] := Y.appS 1 rfl ([(x_6, x_7)] : List (Int × Int)) ow fA gA rfl rfl
                intro hv17
                have Y : Sy _ _ hv17 [_, _, _, _, _, _, _, _, _, _, _, _] := (Y.stJ 9 rfl _ _)
                clear_value hv17
                intro hv18
                have Y : Sy _ _ hv18 [_, _, _, _, _, _, _, _, _, _, _, _, _] := Y.junk _
                clear_value hv18
                obtain ⟨q_16, T⟩ := T
                refine ⟨_, Y.ownS 0 rfl, (allc (Y.nJ 0 12 rfl rfl rfl) (allc (Y.nJ 0 11 rfl rfl rfl) (allc (Y.nJ 0 10 rfl rfl rfl) (allc (Y.nJ 0 9 rfl rfl rfl) (allc (Y.nJ 0 8 rfl rfl rfl) alln))))), by first | exact appB q_16 (by decide) | omega, by first | exact appM q_16 | (simp [maxLen]; omega), ?_⟩
                intro sA3 sC3 hv19 ow fA gA gB
                have Y : Sy _ _ hv19 [_, _, _, _, _, _, _, _, _, _, _, _, _] := Y.appS 0 rfl ([(IntKind.i64.wrap (x3 + (1 : Int)))] : List Int) ow fA gA rfl rfl
                exact ⟨_, _, _, _, _, _, _, _, _, rfl, Y.pick [0, 1, 2, 3, 4, 5, 6, 7, 8, 9, 10] rfl, T⟩
              · exact ⟨_, _, _, _, _, _, _, _, _, rfl, Y.pick [0, 1, 2, 3, 4, 5, 6, 7, 8, 9, 10] rfl, T⟩
            · subst hB_4
              clear T0 Y
              rintro edgesA2 edgesL2 edgesC2 c0_4 c1A4 c1L4 c1C4 hv20 ⟨edgesA2, edgesL2, edgesC2, edges_2, c0_4, c1A4, c1L4, c1C4, c1_4, e, Y, T⟩
              cases e
              obtain rfl := Y.lenS 0 rfl
              obtain rfl := Y.lenS 1 rfl
              replace T := T1 edges_2 c0_4 c1_4 T
              have Y : Sy _ _ _ [_, _, _, _, _, _, _, _, _, _, _] := Y
              exact loopBack hm_2 ⟨_, _, _, _, _, _, _, _, _, _, rfl, Y.pick [0, 1, 2, 3, 4, 5, 6, 7, 8, 9] rfl, T.1, rfl⟩ T.2
          · intro hv21
            have Y : Sy _ _ hv21 [_, _, _, _, _, _, _, _, _, _] := ((Y.stJ 8 rfl _ _).stJ 8 rfl _ _)
            clear_value hv21
            exact ⟨_, _, _, _, _, _, _, _, _, _, _, _, _, Y.pick [1, 2, 0] rfl, rfl, T⟩
/-- tracery/graph.New -/
def Ok161  (R : Gr → Prop) : Prop :=
  ∀ (h : Heap), Hp h [] → CallsH Try.prog 161 #[] h fun v h' => ∃ (rB : Nat) (rS : List Nat) (rG : Gr), Sy h [] h' [Ck.gr rB rS rG] ∧ v = .pointer (some ⟨rB, 0, none⟩) ∧ R rG
theorem Ok161.mono {R R' : Gr → Prop} (H : Ok161  R) (kz : ∀ rG, R rG → R' rG) : Ok161  R' :=
  fun h  hp => (H h  hp).mono fun _ _ ⟨rB, rS, rG, P, e, q⟩ => ⟨rB, rS, rG, P, e, kz _ q⟩
/-- (*tracery/graph.Graph).Ends -/
def Ok76 (gG : Gr) (ev : Int) (R : Gr → Int → Int → Int → Prop) : Prop :=
  ∀ (h : Heap) (gB : Nat) (gS : List Nat), Hp h [Ck.gr gB gS gG] → CallsH Try.prog 76 #[.pointer (some ⟨gB, 0, none⟩), .int .i64 ev] h fun v h' => ∃ (gS2 : List Nat) (gG1 : Gr) (raV : Int) (rbV : Int) (rcV : Int), Sy h (owns [Ck.gr gB gS gG]) h' [Ck.gr gB gS2 gG1] ∧ v = .tuple #[.int .i64 raV, .int .i64 rbV, .int .i64 rcV] ∧ R gG1 raV rbV rcV
theorem Ok76.mono {gG ev} {R R' : Gr → Int → Int → Int → Prop} (H : Ok76 gG ev R) (kz : ∀ gG1 raV rbV rcV, R gG1 raV rbV rcV → R' gG1 raV rbV rcV) : Ok76 gG ev R' :=
  fun h gB gS hp => (H h gB gS hp).mono fun _ _ ⟨gS2, gG1, raV, rbV, rcV, P, e, q⟩ => ⟨gS2, gG1, raV, rbV, rcV, P, e, kz _ _ _ _ q⟩
/-- (*tracery/graph.Graph).Split -/
def Ok77 (gG : Gr) (ev : Int) (R : Gr → Int → Int → Int → Prop) : Prop :=
  ∀ (h : Heap) (gB : Nat) (gS : List Nat), Hp h [Ck.gr gB gS gG] → CallsH Try.prog 77 #[.pointer (some ⟨gB, 0, none⟩), .int .i64 ev] h fun v h' => ∃ (gS2 : List Nat) (gG1 : Gr) (raV : Int) (rbV : Int) (rcV : Int), Sy h (owns [Ck.gr gB gS gG]) h' [Ck.gr gB gS2 gG1] ∧ v = .tuple #[.int .i64 raV, .int .i64 rbV, .int .i64 rcV] ∧ R gG1 raV rbV rcV
theorem Ok77.mono {gG ev} {R R' : Gr → Int → Int → Int → Prop} (H : Ok77 gG ev R) (kz : ∀ gG1 raV rbV rcV, R gG1 raV rbV rcV → R' gG1 raV rbV rcV) : Ok77 gG ev R' :=
  fun h gB gS hp => (H h gB gS hp).mono fun _ _ ⟨gS2, gG1, raV, rbV, rcV, P, e, q⟩ => ⟨gS2, gG1, raV, rbV, rcV, P, e, kz _ _ _ _ q⟩
/-- (*tracery/graph.Graph).Unsplit -/
def Ok78 (gG : Gr) (v : Int) (R : Gr → Int → Int → Prop) : Prop :=
  ∀ (h : Heap) (gB : Nat) (gS : List Nat), Hp h [Ck.gr gB gS gG] → CallsH Try.prog 78 #[.pointer (some ⟨gB, 0, none⟩), .int .i64 v] h fun v h' => ∃ (gS2 : List Nat) (gG1 : Gr) (raV : Int) (rbV : Int), Sy h (owns [Ck.gr gB gS gG]) h' [Ck.gr gB gS2 gG1] ∧ v = .tuple #[.int .i64 raV, .int .i64 rbV] ∧ R gG1 raV rbV
theorem Ok78.mono {gG v} {R R' : Gr → Int → Int → Prop} (H : Ok78 gG v R) (kz : ∀ gG1 raV rbV, R gG1 raV rbV → R' gG1 raV rbV) : Ok78 gG v R' :=
  fun h gB gS hp => (H h gB gS hp).mono fun _ _ ⟨gS2, gG1, raV, rbV, P, e, q⟩ => ⟨gS2, gG1, raV, rbV, P, e, kz _ _ _ q⟩
/-- (*tracery/graph.Graph).Net -/
def Ok79 (gG : Gr) (R : Gr → Int → List (Int × Int) → List Int → List Int → Prop) : Prop :=
  ∀ (h : Heap) (gB : Nat) (gS : List Nat), Hp h [Ck.gr gB gS gG] → CallsH Try.prog 79 #[.pointer (some ⟨gB, 0, none⟩)] h fun v h' => ∃ (gS2 : List Nat) (gG1 : Gr) (nV : Int) (edgesVA : Option Addr) (edgesVL edgesVC : Nat) (edgesV : List (Int × Int)) (rbVA : Option Addr) (rbVL rbVC : Nat) (rbV : List Int) (rcVA : Option Addr) (rcVL rcVC : Nat) (rcV : List Int), Sy h (owns [Ck.gr gB gS gG]) h' [Ck.gr gB gS2 gG1, Ck.sl eP 35 edgesVA edgesVL edgesVC edgesV, Ck.sl eI 3 rbVA rbVL rbVC rbV, Ck.sl eI 3 rcVA rcVL rcVC rcV] ∧ v = .tuple #[.agg #[.int .i64 nV, .slice edgesVA edgesVL edgesVC], .slice rbVA rbVL rbVC, .slice rcVA rcVL rcVC] ∧ R gG1 nV edgesV rbV rcV
theorem Ok79.mono {gG} {R R' : Gr → Int → List (Int × Int) → List Int → List Int → Prop} (H : Ok79 gG R) (kz : ∀ gG1 nV edgesV rbV rcV, R gG1 nV edgesV rbV rcV → R' gG1 nV edgesV rbV rcV) : Ok79 gG R' :=
  fun h gB gS hp => (H h gB gS hp).mono fun _ _ ⟨gS2, gG1, nV, edgesVA, edgesVL, edgesVC, edgesV, rbVA, rbVL, rbVC, rbV, rcVA, rcVL, rcVC, rcV, P, e, q⟩ => ⟨gS2, gG1, nV, edgesVA, edgesVL, edgesVC, edgesV, rbVA, rbVL, rbVC, rbV, rcVA, rcVL, rcVC, rcV, P, e, kz _ _ _ _ _ q⟩
/-- (*tracery/graph.Graph).AddNode -/
def Ok97 (gG : Gr) (R : Gr → Int → Int → Prop) : Prop :=
  ∀ (h : Heap) (gB : Nat) (gS : List Nat), Hp h [Ck.gr gB gS gG] → CallsH Try.prog 97 #[.pointer (some ⟨gB, 0, none⟩)] h fun v h' => ∃ (gS2 : List Nat) (gG1 : Gr) (raV : Int) (rbV : Int), Sy h (owns [Ck.gr gB gS gG]) h' [Ck.gr gB gS2 gG1] ∧ v = .tuple #[.int .i64 raV, .int .i64 rbV] ∧ R gG1 raV rbV
theorem Ok97.mono {gG} {R R' : Gr → Int → Int → Prop} (H : Ok97 gG R) (kz : ∀ gG1 raV rbV, R gG1 raV rbV → R' gG1 raV rbV) : Ok97 gG R' :=
  fun h gB gS hp => (H h gB gS hp).mono fun _ _ ⟨gS2, gG1, raV, rbV, P, e, q⟩ => ⟨gS2, gG1, raV, rbV, P, e, kz _ _ _ q⟩
/-- (*tracery/graph.Graph).AddEdge -/
def Ok98 (gG : Gr) (u : Int) (v : Int) (R : Gr → Int → Int → Prop) : Prop :=
  ∀ (h : Heap) (gB : Nat) (gS : List Nat), Hp h [Ck.gr gB gS gG] → CallsH Try.prog 98 #[.pointer (some ⟨gB, 0, none⟩), .int .i64 u, .int .i64 v] h fun v h' => ∃ (gS2 : List Nat) (gG1 : Gr) (raV : Int) (rbV : Int), Sy h (owns [Ck.gr gB gS gG]) h' [Ck.gr gB gS2 gG1] ∧ v = .tuple #[.int .i64 raV, .int .i64 rbV] ∧ R gG1 raV rbV
theorem Ok98.mono {gG u v} {R R' : Gr → Int → Int → Prop} (H : Ok98 gG u v R) (kz : ∀ gG1 raV rbV, R gG1 raV rbV → R' gG1 raV rbV) : Ok98 gG u v R' :=
  fun h gB gS hp => (H h gB gS hp).mono fun _ _ ⟨gS2, gG1, raV, rbV, P, e, q⟩ => ⟨gS2, gG1, raV, rbV, P, e, kz _ _ _ q⟩
/-- (*tracery/graph.Graph).DropNode -/
def Ok99 (gG : Gr) (v : Int) (R : Gr → Int → Int → Prop) : Prop :=
  ∀ (h : Heap) (gB : Nat) (gS : List Nat), Hp h [Ck.gr gB gS gG] → CallsH Try.prog 99 #[.pointer (some ⟨gB, 0, none⟩), .int .i64 v] h fun v h' => ∃ (gS2 : List Nat) (gG1 : Gr) (raV : Int) (rbV : Int), Sy h (owns [Ck.gr gB gS gG]) h' [Ck.gr gB gS2 gG1] ∧ v = .tuple #[.int .i64 raV, .int .i64 rbV] ∧ R gG1 raV rbV
theorem Ok99.mono {gG v} {R R' : Gr → Int → Int → Prop} (H : Ok99 gG v R) (kz : ∀ gG1 raV rbV, R gG1 raV rbV → R' gG1 raV rbV) : Ok99 gG v R' :=
  fun h gB gS hp => (H h gB gS hp).mono fun _ _ ⟨gS2, gG1, raV, rbV, P, e, q⟩ => ⟨gS2, gG1, raV, rbV, P, e, kz _ _ _ q⟩
/-- (*tracery/graph.Graph).Edges -/
def Ok100 (gG : Gr) (v : Int) (R : Gr → Prop) : Prop :=
  ∀ (h : Heap) (gB : Nat) (gS : List Nat), Hp h [Ck.gr gB gS gG] → CallsH Try.prog 100 #[.pointer (some ⟨gB, 0, none⟩), .int .i64 v] h fun v h' => ∃ (gS2 : List Nat) (gG1 : Gr) (rG : Fn) (rX rY : Array Value), Sy h (owns [Ck.gr gB gS gG]) h' [Ck.gr gB gS2 gG1] ∧ v = .func rG rX rY ∧ R gG1
theorem Ok100.mono {gG v} {R R' : Gr → Prop} (H : Ok100 gG v R) (kz : ∀ gG1, R gG1 → R' gG1) : Ok100 gG v R' :=
  fun h gB gS hp => (H h gB gS hp).mono fun _ _ ⟨gS2, gG1, rG, rX, rY, P, e, q⟩ => ⟨gS2, gG1, rG, rX, rY, P, e, kz _ q⟩
/-- (*tracery/graph.Graph).Mark -/
def Ok101 (gG : Gr) (R : Gr → Int → Prop) : Prop :=
  ∀ (h : Heap) (gB : Nat) (gS : List Nat), Hp h [Ck.gr gB gS gG] → CallsH Try.prog 101 #[.pointer (some ⟨gB, 0, none⟩)] h fun v h' => ∃ (gS2 : List Nat) (gG1 : Gr) (rV : Int), Sy h (owns [Ck.gr gB gS gG]) h' [Ck.gr gB gS2 gG1] ∧ v = .int .i64 rV ∧ R gG1 rV
theorem Ok101.mono {gG} {R R' : Gr → Int → Prop} (H : Ok101 gG R) (kz : ∀ gG1 rV, R gG1 rV → R' gG1 rV) : Ok101 gG R' :=
  fun h gB gS hp => (H h gB gS hp).mono fun _ _ ⟨gS2, gG1, rV, P, e, q⟩ => ⟨gS2, gG1, rV, P, e, kz _ _ q⟩
/-- (*tracery/graph.Graph).DropEdge -/
def Ok102 (gG : Gr) (ev : Int) (R : Gr → Int → Prop) : Prop :=
  ∀ (h : Heap) (gB : Nat) (gS : List Nat), Hp h [Ck.gr gB gS gG] → CallsH Try.prog 102 #[.pointer (some ⟨gB, 0, none⟩), .int .i64 ev] h fun v h' => ∃ (gS2 : List Nat) (gG1 : Gr) (rV : Int), Sy h (owns [Ck.gr gB gS gG]) h' [Ck.gr gB gS2 gG1] ∧ v = .int .i64 rV ∧ R gG1 rV
theorem Ok102.mono {gG ev} {R R' : Gr → Int → Prop} (H : Ok102 gG ev R) (kz : ∀ gG1 rV, R gG1 rV → R' gG1 rV) : Ok102 gG ev R' :=
  fun h gB gS hp => (H h gB gS hp).mono fun _ _ ⟨gS2, gG1, rV, P, e, q⟩ => ⟨gS2, gG1, rV, P, e, kz _ _ q⟩
/-- (*tracery/graph.Graph).Move -/
def Ok103 (gG : Gr) (ev : Int) (endv : Int) (v : Int) (R : Gr → Int → Prop) : Prop :=
  ∀ (h : Heap) (gB : Nat) (gS : List Nat), Hp h [Ck.gr gB gS gG] → CallsH Try.prog 103 #[.pointer (some ⟨gB, 0, none⟩), .int .i64 ev, .int .i64 endv, .int .i64 v] h fun v h' => ∃ (gS2 : List Nat) (gG1 : Gr) (rV : Int), Sy h (owns [Ck.gr gB gS gG]) h' [Ck.gr gB gS2 gG1] ∧ v = .int .i64 rV ∧ R gG1 rV
theorem Ok103.mono {gG ev endv v} {R R' : Gr → Int → Prop} (H : Ok103 gG ev endv v R) (kz : ∀ gG1 rV, R gG1 rV → R' gG1 rV) : Ok103 gG ev endv v R' :=
  fun h gB gS hp => (H h gB gS hp).mono fun _ _ ⟨gS2, gG1, rV, P, e, q⟩ => ⟨gS2, gG1, rV, P, e, kz _ _ q⟩
/-- (*tracery/graph.Graph).Back -/
def Ok104 (gG : Gr) (number : Int) (R : Gr → Int → Prop) : Prop :=
  ∀ (h : Heap) (gB : Nat) (gS : List Nat), Hp h [Ck.gr gB gS gG] → CallsH Try.prog 104 #[.pointer (some ⟨gB, 0, none⟩), .int .i64 number] h fun v h' => ∃ (gS2 : List Nat) (gG1 : Gr) (rV : Int), Sy h (owns [Ck.gr gB gS gG]) h' [Ck.gr gB gS2 gG1] ∧ v = .int .i64 rV ∧ R gG1 rV
theorem Ok104.mono {gG number} {R R' : Gr → Int → Prop} (H : Ok104 gG number R) (kz : ∀ gG1 rV, R gG1 rV → R' gG1 rV) : Ok104 gG number R' :=
  fun h gB gS hp => (H h gB gS hp).mono fun _ _ ⟨gS2, gG1, rV, P, e, q⟩ => ⟨gS2, gG1, rV, P, e, kz _ _ q⟩
/-- tracery/graph.Of -/
def S75 (n : Int) (nA : Option Addr) (nL nC : Nat) (h : Heap) (R : Value → Heap → Prop) : Prop :=
  let hv : Heap := h.push (.cells #[.int .i64 n, .slice nA nL nC] 26)
  callX Try.prog 140 #[.agg #[.int .i64 n, .slice nA nL nC]] hv [h.size] fun v hv2 =>
  ∃ r : Bool, v = .bool r ∧
  cnd (!r)
    (R (.tuple #[.pointer none, .int .i64 1]) hv2)
    (callX Try.prog 161 #[] hv2 [h.size] fun v2 hv3 =>
    ∃ rP : Option Addr, v2 = .pointer rP ∧
    ∃ (Iv : List Value → Heap → Prop) (m : List Value → Heap → Nat), Iv [.int .i64 0] hv3 ∧ -- loop 0: ['13']
    ∀ x : Int, ∀ hv4, Iv [.int .i64 x] hv4 →
    cnd (decide (x < n))
      (callX Try.prog 97 #[.pointer rP] hv4 [h.size] fun v3 hv5 =>
      ∃ ra : Int, ∃ rb : Int, v3 = .tuple #[.int .i64 ra, .int .i64 rb] ∧
      Iv [.int .i64 (IntKind.i64.wrap (x + (1 : Int)))] hv5 ∧ m [.int .i64 (IntKind.i64.wrap (x + (1 : Int)))] hv5 < m [.int .i64 x] hv4)
      (∃ (Iv2 : List Value → Heap → Prop) (m2 : List Value → Heap → Nat), Iv2 [.int .i64 0] hv4 ∧ -- loop 2: ['21']
      ∀ x2 : Int, ∀ hv6, Iv2 [.int .i64 x2] hv6 →
      cnd (decide (x2 < ((nL : Nat) : Int)))
        (∃ b o, nA = some ⟨b, o, none⟩ ∧ 0 ≤ x2 ∧ x2 < (nL : Nat) ∧ ∃ x3 : Int, hcell hv6 b (o + (Int.toNat x2) * 2) = some (.int .i64 x3) ∧ ∃ x4 : Int, hcell hv6 b ((o + (Int.toNat x2) * 2) + 1) = some (.int .i64 x4) ∧ let hv7 : Heap := hv6.push (.cells #[.int .i64 0, .int .i64 0] 35)
        let hv8 : Heap := hset (hset hv7 hv6.size 0 (.int .i64 x3)) hv6.size (0 + 1) (.int .i64 x4)
        callX Try.prog 98 #[.pointer rP, .int .i64 (IntKind.i64.wrap (x3 + (1 : Int))), .int .i64 (IntKind.i64.wrap (x4 + (1 : Int)))] hv8 [hv6.size] fun v4 hv9 =>
        ∃ ra2 : Int, ∃ rb2 : Int, v4 = .tuple #[.int .i64 ra2, .int .i64 rb2] ∧
        Iv2 [.int .i64 (IntKind.i64.wrap (x2 + (1 : Int)))] hv9 ∧ m2 [.int .i64 (IntKind.i64.wrap (x2 + (1 : Int)))] hv9 < m2 [.int .i64 x2] hv6)
        (R (.tuple #[.pointer rP, .int .i64 0]) hv6)))
theorem calls75 {h : Heap} {R : Value → Heap → Prop} (n : Int) (nA : Option Addr) (nL nC : Nat) (H : S75 n nA nL nC h R) : CallsH Try.prog 75 #[.agg #[.int .i64 n, .slice nA nL nC]] h R := by
  have e : S75 n nA nL nC h R = FX (envX [1, 6] 35) { loops := [(0, ⟨[1, 4, 12], [13], [1], []⟩), (2, ⟨[4, 19, 20], [21], [], []⟩)], joins := [], blocks := [], draws := [] } Try.f75 (Try.f75.body.getD .skip) [.agg #[.int .i64 n, .slice nA nL nC]] h R := by kernel_rfl
  exact calls_of_FX (envX_ok _ _) Try.func75 (by kernel_rfl) (by kernel_rfl) (by kernel_rfl) (e ▸ H)
/-- tracery/graph.Of -/
def Ok75 (n : Int) (edgesV : List (Int × Int)) (R : Bool → Gr → Int → Prop) : Prop :=
  ∀ (h : Heap) (nA : Option Addr) (nL nC : Nat), Hp h [Ck.vw eP nA nL nC edgesV] → CallsH Try.prog 75 #[.agg #[.int .i64 n, .slice nA nL nC]] h fun v h' => ∃ (raB : Nat) (raS : List Nat) (raGN : Bool) (raG : Gr) (rbV : Int), Sy h [] h' [Ck.opt raGN (Ck.gr raB raS raG)] ∧ v = .tuple #[.pointer (optA raGN raB), .int .i64 rbV] ∧ R raGN raG rbV
theorem Ok75.mono {n edgesV} {R R' : Bool → Gr → Int → Prop} (H : Ok75 n edgesV R) (kz : ∀ raGN raG rbV, R raGN raG rbV → R' raGN raG rbV) : Ok75 n edgesV R' :=
  fun h nA nL nC hp => (H h nA nL nC hp).mono fun _ _ ⟨raB, raS, raGN, raG, rbV, P, e, q⟩ => ⟨raB, raS, raGN, raG, rbV, P, e, kz _ _ _ q⟩
def T75 (n : Int) (edgesV : List (Int × Int)) (R : Bool → Gr → Int → Prop) : Prop :=
  Ok140 n edgesV (fun r =>
  cnd (!r)
    (R true (⟨[], [], 0, 0, [], [], 0⟩) 1)
    (Ok161 (fun rG =>
    ∃ (Iv : Int → Gr → Prop) (m : Int → Gr → Nat), Iv 0 rG ∧
    ∀ x : Int, ∀ rG_2 : Gr, Iv x rG_2 →
    cnd (decide (x < n))
      (Ok97 rG_2 (fun gG1 ra rb =>
      Iv (IntKind.i64.wrap (x + (1 : Int))) gG1 ∧ m (IntKind.i64.wrap (x + (1 : Int))) gG1 < m x rG_2))
      (∃ (Iv2 : Int → Gr → Prop) (m2 : Int → Gr → Nat), Iv2 0 rG_2 ∧
      ∀ x2 : Int, ∀ rG_2_2 : Gr, Iv2 x2 rG_2_2 →
      cnd (decide (x2 < ((edgesV.length : Nat) : Int)))
        (0 ≤ x2 ∧ x2 < ((edgesV.length : Nat) : Int) ∧ ∀ n_2 : (Int × Int), edgesV[(Int.toNat x2)]? = some n_2 → Ok98 rG_2_2 (IntKind.i64.wrap (n_2.1 + (1 : Int))) (IntKind.i64.wrap (n_2.2 + (1 : Int))) (fun gG1_2 ra2 rb2 =>
        Iv2 (IntKind.i64.wrap (x2 + (1 : Int))) gG1_2 ∧ m2 (IntKind.i64.wrap (x2 + (1 : Int))) gG1_2 < m2 x2 rG_2_2))
        (R false rG_2_2 0)))))
theorem ok75 {n edgesV} {R : Bool → Gr → Int → Prop} (T : T75 n edgesV R) : Ok75 n edgesV R := by
  intro h nA nL nC H
  have Y : Sy h [] h _ := Sy.startM H rfl
  obtain rfl := Y.lenV 0 rfl
  apply calls75
  unfold S75
  unfold T75 at T
  intro hv
  have Y : Sy _ _ hv [_, _] := Y.junk _
  clear_value hv
  refine callX_sy (T _ _ _ _ (Y.pick [0] rfl).hp) (fun _ _ ⟨_, p, _⟩ => p.fr) (allc (fun h => by cases h) alln) ?_
  rintro v hv2 ⟨r, PP, rfl, T⟩
  have Y : Sy _ _ hv2 [_, _] := Y.gr PP.fr
  clear PP
  refine ⟨r, rfl, ?_⟩
  refine cnd_imp T (fun T => ?_) (fun T => ?_)
  · have Y : Sy _ _ _ [_, _, _] := Y.addNo
    exact ⟨0, [], true, ⟨[], [], 0, 0, [], [], 0⟩, _, Y.pick [2] rfl, rfl, T⟩
  · refine callX_sy (T _ (Hp.nil _)) (fun _ _ ⟨_, _, _, p, _⟩ => p.fr) (allc (fun h => by cases h) alln) ?_
    rintro v2 hv3 ⟨rB_2, rS, rG, PP, rfl, T⟩
    have Y : Sy _ _ hv3 [_, _, _] := Y.callV PP ⟨rfl, trivial⟩
    clear PP
    refine ⟨_, rfl, ?_⟩
    obtain ⟨Iv, m, T0, T1⟩ := T
    obtain ⟨B, hB, YB⟩ := Y.cut [2] [0, 1] rfl
    obtain ⟨F, hF⟩ := Y.fnG (k := 2) rfl
    obtain ⟨JJ, hJJ⟩ : ∃ JJ : Nat → List Value → Heap → Prop, JJ = (fun k lz h' => ∃ (x : Int) (gS : List Nat) (rG_2 : Gr), lz = [.int .i64 x] ∧ Sy h [] h' ([F gS rG_2] ++ B) ∧ Iv x rG_2 ∧ m x rG_2 = k) := ⟨_, rfl⟩
    refine ⟨fun lz h' => ∃ k, JJ k lz h', Lm JJ, ?_, ?_⟩
    · subst hJJ hB hF
      exact ⟨_, _, _, _, rfl, YB, T0, rfl⟩
    · clear YB T0 Y
      intro x hv4 hI
      obtain ⟨k, hI, hm⟩ := loopIn hI
      subst hJJ hB hF
      obtain ⟨x, gS, rG_2, e, Y, T, rfl⟩ := hI
      cases e
      replace T := T1 x rG_2 T
      have Y : Sy _ _ _ [_, _, _] := Y
      refine cnd_imp T (fun T => ?_) (fun T => ?_)
      · refine callX_sy (T _ _ _ (Y.pick [0] rfl).hp) (fun _ _ ⟨_, _, _, _, p, _⟩ => p.fr) (allc (Y.nO 2 [0] rfl rfl) alln) ?_
        rintro v3 hv5 ⟨gS2, gG1, ra, rb, PP, rfl, T⟩
        have Y : Sy _ _ hv5 [_, _, _] := Y.call2 [0, 1, 2] rfl (A := [_]) rfl rfl PP ⟨rfl, trivial⟩
        clear PP
        refine ⟨ra, rb, rfl, ?_⟩
        exact loopBack hm ⟨_, _, _, rfl, Y.pick [0, 1, 2] rfl, T.1, rfl⟩ T.2
      · obtain ⟨Iv2, m2, T0, T1⟩ := T
        obtain ⟨B_2, hB_2, YB⟩ := Y.cut [0] [1, 2] rfl
        obtain ⟨F_2, hF_2⟩ := Y.fnG (k := 0) rfl
        obtain ⟨JJ_2, hJJ_2⟩ : ∃ JJ_2 : Nat → List Value → Heap → Prop, JJ_2 = (fun k_2 lz h' => ∃ (x2 : Int) (gS_2 : List Nat) (rG_2_2 : Gr), lz = [.int .i64 x2] ∧ Sy h [] h' ([F_2 gS_2 rG_2_2] ++ B_2) ∧ Iv2 x2 rG_2_2 ∧ m2 x2 rG_2_2 = k_2) := ⟨_, rfl⟩
        refine ⟨fun lz h' => ∃ k_2, JJ_2 k_2 lz h', Lm JJ_2, ?_, ?_⟩
        · subst hJJ_2 hB_2 hF_2
          exact ⟨_, _, _, _, rfl, YB, T0, rfl⟩
        · clear YB T0 Y
          intro x2 hv6 hI
          obtain ⟨k_2, hI, hm_2⟩ := loopIn hI
          subst hJJ_2 hB_2 hF_2
          obtain ⟨x2, gS_2, rG_2_2, e, Y, T, rfl⟩ := hI
          cases e
          replace T := T1 x2 rG_2_2 T
          have Y : Sy _ _ _ [_, _, _] := Y
          refine cnd_imp T (fun T => ?_) (fun T => ?_)
          · obtain ⟨q, q_2, T⟩ := T
            obtain ⟨b_2, o_2, hb, hr, n_2, hx⟩ := Y.atV 1 rfl q q_2
            refine ⟨b_2, o_2, hb, q, q_2, ?_⟩
            replace T := T n_2 hx
            refine ⟨_, Y.cellV 1 rfl hb (t := 0) hx rfl, ?_⟩
            refine ⟨_, Y.cellV 1 rfl hb (t := 1) hx rfl, ?_⟩
            intro hv7
            have Y : Sy _ _ hv7 [_, _, _, _] := Y.junk _
            clear_value hv7
            intro hv8
            have Y : Sy _ _ hv8 [_, _, _, _] := ((Y.stJ 3 rfl _ _).stJ 3 rfl _ _)
            clear_value hv8
            refine callX_sy (T _ _ _ (Y.pick [0] rfl).hp) (fun _ _ ⟨_, _, _, _, p, _⟩ => p.fr) (allc (Y.nO 3 [0] rfl rfl) alln) ?_
            rintro v4 hv9 ⟨gS2_2, gG1_2, ra2, rb2, PP, rfl, T⟩
            have Y : Sy _ _ hv9 [_, _, _, _] := Y.call2 [0, 1, 2, 3] rfl (A := [_]) rfl rfl PP ⟨rfl, trivial⟩
            clear PP
            refine ⟨ra2, rb2, rfl, ?_⟩
            exact loopBack hm_2 ⟨_, _, _, rfl, Y.pick [0, 1, 2] rfl, T.1, rfl⟩ T.2
          · exact ⟨_, _, false, _, _, Y.pick [0] rfl, rfl, T⟩
/-- tracery/tracerylaw4.begun -/
def S74  (h : Heap) (R : Value → Heap → Prop) : Prop :=
  callX Try.prog 161 #[] h [] fun v hv =>
  ∃ rP : Option Addr, v = .pointer rP ∧
  cnd (Option.isNone rP)
    (R (.bool false) hv)
    (callX Try.prog 100 #[.pointer rP, .int .i64 1] hv [] fun v2 hv2 =>
    ∃ (rF : Fn) (rX rY : Array Value), v2 = .func rF rX rY ∧
    cnd false
      (R (.bool false) hv2)
      (callX Try.prog 97 #[.pointer rP] hv2 [] fun v3 hv3 =>
      ∃ ra : Int, ∃ rb : Int, v3 = .tuple #[.int .i64 ra, .int .i64 rb] ∧
      callX Try.prog 97 #[.pointer rP] hv3 [] fun v4 hv4 =>
      ∃ ra2 : Int, ∃ rb2 : Int, v4 = .tuple #[.int .i64 ra2, .int .i64 rb2] ∧
      callX Try.prog 98 #[.pointer rP, .int .i64 ra, .int .i64 ra2] hv4 [] fun v5 hv5 =>
      ∃ ra3 : Int, ∃ rb3 : Int, v5 = .tuple #[.int .i64 ra3, .int .i64 rb3] ∧
      callX Try.prog 77 #[.pointer rP, .int .i64 ra3] hv5 [] fun v6 hv6 =>
      ∃ ra4 : Int, ∃ rb4 : Int, ∃ rc : Int, v6 = .tuple #[.int .i64 ra4, .int .i64 rb4, .int .i64 rc] ∧
      callX Try.prog 101 #[.pointer rP] hv6 [] fun v7 hv7 =>
      ∃ r : Int, v7 = .int .i64 r ∧
      callX Try.prog 78 #[.pointer rP, .int .i64 ra4] hv7 [] fun v8 hv8 =>
      ∃ ra5 : Int, ∃ rb5 : Int, v8 = .tuple #[.int .i64 ra5, .int .i64 rb5] ∧
      callX Try.prog 79 #[.pointer rP] hv8 [] fun v9 hv9 =>
      ∃ ra6 : Int, ∃ (raA : Option Addr) (raL raC : Nat), ∃ (rbA : Option Addr) (rbL rbC : Nat), ∃ (rcA : Option Addr) (rcL rcC : Nat), v9 = .tuple #[.agg #[.int .i64 ra6, .slice raA raL raC], .slice rbA rbL rbC, .slice rcA rcL rcC] ∧
      let hv10 : Heap := hv9.push (.cells #[.int .i64 0, .slice none 0 0] 26)
      let hv11 : Heap := hset (hset hv10 hv9.size 0 (.int .i64 ra6)) hv9.size (0 + 1) (.slice raA raL raC)
      cnd (ra == (1 : Int))
        (cnd (ra2 == (2 : Int))
          (cnd (ra3 == (1 : Int))
            (cnd (rb3 == (0 : Int))
              (cnd (ra4 == (3 : Int))
                (cnd (rb4 == (2 : Int))
                  (cnd (rc == (0 : Int))
                    (cnd (r == (1 : Int))
                      (cnd (ra5 == (1 : Int))
                        (cnd (rb5 == (0 : Int))
                          (cnd (((raL : Nat) : Int) == (1 : Int))
                            (callX Try.prog 104 #[.pointer rP, .int .i64 r] hv11 [hv9.size] fun v10 hv12 =>
                            ∃ r2 : Int, v10 = .int .i64 r2 ∧
                            R (.bool (r2 == (0 : Int))) hv12)
                            (R (.bool false) hv11))
                          (R (.bool false) hv11))
                        (R (.bool false) hv11))
                      (R (.bool false) hv11))
                    (R (.bool false) hv11))
                  (R (.bool false) hv11))
                (R (.bool false) hv11))
              (R (.bool false) hv11))
            (R (.bool false) hv11))
          (R (.bool false) hv11))
        (R (.bool false) hv11)))
theorem calls74 {h : Heap} {R : Value → Heap → Prop}  (H : S74  h R) : CallsH Try.prog 74 #[] h R := by
  have e : S74  h R = FX (envX [14] 113) { loops := [], joins := [], blocks := [], draws := [] } Try.f74 (Try.f74.body.getD .skip) [] h R := by kernel_rfl
  exact calls_of_FX (envX_ok _ _) Try.func74 (by kernel_rfl) (by kernel_rfl) (by kernel_rfl) (e ▸ H)
/-- tracery/tracerylaw4.begun -/
def Ok74  (R : Bool → Prop) : Prop :=
  ∀ (h : Heap), Hp h [] → CallsH Try.prog 74 #[] h fun v h' => ∃ (rV : Bool), Sy h [] h' [] ∧ v = .bool rV ∧ R rV
theorem Ok74.mono {R R' : Bool → Prop} (H : Ok74  R) (kz : ∀ rV, R rV → R' rV) : Ok74  R' :=
  fun h  hp => (H h  hp).mono fun _ _ ⟨rV, P, e, q⟩ => ⟨rV, P, e, kz _ q⟩
def T74  (R : Bool → Prop) : Prop :=
  Ok161 (fun rG =>
  cnd (false)
    (R false)
    (Ok100 rG 1 (fun gG1 =>
    cnd false
      (R false)
      (Ok97 gG1 (fun gG1_2 ra rb =>
      Ok97 gG1_2 (fun gG1_3 ra2 rb2 =>
      Ok98 gG1_3 ra ra2 (fun gG1_4 ra3 rb3 =>
      Ok77 gG1_4 ra3 (fun gG1_5 ra4 rb4 rc =>
      Ok101 gG1_5 (fun gG1_6 r =>
      Ok78 gG1_6 ra4 (fun gG1_7 ra5 rb5 =>
      Ok79 gG1_7 (fun gG1_8 ra6 ra_2 rb_2 rc_2 =>
      cnd (ra == (1 : Int))
        (cnd (ra2 == (2 : Int))
          (cnd (ra3 == (1 : Int))
            (cnd (rb3 == (0 : Int))
              (cnd (ra4 == (3 : Int))
                (cnd (rb4 == (2 : Int))
                  (cnd (rc == (0 : Int))
                    (cnd (r == (1 : Int))
                      (cnd (ra5 == (1 : Int))
                        (cnd (rb5 == (0 : Int))
                          (cnd (((ra_2.length : Nat) : Int) == (1 : Int))
                            (Ok104 gG1_8 r (fun gG1_9 r2 =>
                            R (r2 == (0 : Int))))
                            (R false))
                          (R false))
                        (R false))
                      (R false))
                    (R false))
                  (R false))
                (R false))
              (R false))
            (R false))
          (R false))
        (R false))))))))))))
theorem ok74 {R : Bool → Prop} (T : T74  R) : Ok74  R := by
  intro h  H
  have Y : Sy h [] h _ := Sy.startM H rfl
  apply calls74
  unfold S74
  unfold T74 at T
  refine callX_sy (T _ (Hp.nil _)) (fun _ _ ⟨_, _, _, p, _⟩ => p.fr) alln ?_
  rintro v hv ⟨rB_2, rS, rG, PP, rfl, T⟩
  have Y : Sy _ _ hv [_] := Y.callV PP ⟨rfl, trivial⟩
  clear PP
  refine ⟨_, rfl, ?_⟩
  refine cnd_imp T (fun T => ?_) (fun T => ?_)
  · exact ⟨_, Y.pick [] rfl, rfl, T⟩
  · refine callX_sy (T _ _ _ (Y.pick [0] rfl).hp) (fun _ _ ⟨_, _, _, _, _, p, _⟩ => p.fr) alln ?_
    rintro v2 hv2 ⟨gS2, gG1, rF, rX, rY, PP, rfl, T⟩
    have Y : Sy _ _ hv2 [_] := Y.call2 [0] rfl (A := [_]) rfl rfl PP ⟨rfl, trivial⟩
    clear PP
    refine ⟨_, _, _, rfl, ?_⟩
    refine cnd_imp T (fun T => ?_) (fun T => ?_)
    · exact ⟨_, Y.pick [] rfl, rfl, T⟩
    · refine callX_sy (T _ _ _ (Y.pick [0] rfl).hp) (fun _ _ ⟨_, _, _, _, p, _⟩ => p.fr) alln ?_
      rintro v3 hv3 ⟨gS2_2, gG1_2, ra, rb, PP, rfl, T⟩
      have Y : Sy _ _ hv3 [_] := Y.call2 [0] rfl (A := [_]) rfl rfl PP ⟨rfl, trivial⟩
      clear PP
      refine ⟨ra, rb, rfl, ?_⟩
      refine callX_sy (T _ _ _ (Y.pick [0] rfl).hp) (fun _ _ ⟨_, _, _, _, p, _⟩ => p.fr) alln ?_
      rintro v4 hv4 ⟨gS2_3, gG1_3, ra2, rb2, PP, rfl, T⟩
      have Y : Sy _ _ hv4 [_] := Y.call2 [0] rfl (A := [_]) rfl rfl PP ⟨rfl, trivial⟩
      clear PP
      refine ⟨ra2, rb2, rfl, ?_⟩
      refine callX_sy (T _ _ _ (Y.pick [0] rfl).hp) (fun _ _ ⟨_, _, _, _, p, _⟩ => p.fr) alln ?_
      rintro v5 hv5 ⟨gS2_4, gG1_4, ra3, rb3, PP, rfl, T⟩
      have Y : Sy _ _ hv5 [_] := Y.call2 [0] rfl (A := [_]) rfl rfl PP ⟨rfl, trivial⟩
      clear PP
      refine ⟨ra3, rb3, rfl, ?_⟩
      refine callX_sy (T _ _ _ (Y.pick [0] rfl).hp) (fun _ _ ⟨_, _, _, _, _, p, _⟩ => p.fr) alln ?_
      rintro v6 hv6 ⟨gS2_5, gG1_5, ra4, rb4, rc, PP, rfl, T⟩
      have Y : Sy _ _ hv6 [_] := Y.call2 [0] rfl (A := [_]) rfl rfl PP ⟨rfl, trivial⟩
      clear PP
      refine ⟨ra4, rb4, rc, rfl, ?_⟩
      refine callX_sy (T _ _ _ (Y.pick [0] rfl).hp) (fun _ _ ⟨_, _, _, p, _⟩ => p.fr) alln ?_
      rintro v7 hv7 ⟨gS2_6, gG1_6, r, PP, rfl, T⟩
      have Y : Sy _ _ hv7 [_] := Y.call2 [0] rfl (A := [_]) rfl rfl PP ⟨rfl, trivial⟩
      clear PP
      refine ⟨r, rfl, ?_⟩
      refine callX_sy (T _ _ _ (Y.pick [0] rfl).hp) (fun _ _ ⟨_, _, _, _, p, _⟩ => p.fr) alln ?_
      rintro v8 hv8 ⟨gS2_7, gG1_7, ra5, rb5, PP, rfl, T⟩
      have Y : Sy _ _ hv8 [_] := Y.call2 [0] rfl (A := [_]) rfl rfl PP ⟨rfl, trivial⟩
      clear PP
      refine ⟨ra5, rb5, rfl, ?_⟩
      refine callX_sy (T _ _ _ (Y.pick [0] rfl).hp) (fun _ _ ⟨_, _, _, _, _, _, _, _, _, _, _, _, _, _, _, p, _⟩ => p.fr) alln ?_
      rintro v9 hv9 ⟨gS2_8, gG1_8, ra6, raA, raL, raC, ra_2, rbA, rbL, rbC, rb_2, rcA, rcL, rcC, rc_2, PP, rfl, T⟩
      have Y : Sy _ _ hv9 [_, _, _, _] := Y.call2 [0] rfl (A := [_]) rfl rfl PP ⟨rfl, ⟨rfl, ⟨rfl, ⟨rfl, trivial⟩⟩⟩⟩
      clear PP
      obtain rfl := Y.lenS 1 rfl
      obtain rfl := Y.lenS 2 rfl
      obtain rfl := Y.lenS 3 rfl
      refine ⟨ra6, _, _, _, _, _, _, _, _, _, rfl, ?_⟩
      intro hv10
      have Y : Sy _ _ hv10 [_, _, _, _, _] := Y.junk _
      clear_value hv10
      intro hv11
      have Y : Sy _ _ hv11 [_, _, _, _, _] := ((Y.stJ 4 rfl _ _).stJ 4 rfl _ _)
      clear_value hv11
      refine cnd_imp T (fun T => ?_) (fun T => ?_)
      · refine cnd_imp T (fun T => ?_) (fun T => ?_)
        · refine cnd_imp T (fun T => ?_) (fun T => ?_)
          · refine cnd_imp T (fun T => ?_) (fun T => ?_)
            · refine cnd_imp T (fun T => ?_) (fun T => ?_)
              · refine cnd_imp T (fun T => ?_) (fun T => ?_)
                · refine cnd_imp T (fun T => ?_) (fun T => ?_)
                  · refine cnd_imp T (fun T => ?_) (fun T => ?_)
                    · refine cnd_imp T (fun T => ?_) (fun T => ?_)
                      · refine cnd_imp T (fun T => ?_) (fun T => ?_)
                        · refine cnd_imp T (fun T => ?_) (fun T => ?_)
                          · refine callX_sy (T _ _ _ (Y.pick [0] rfl).hp) (fun _ _ ⟨_, _, _, p, _⟩ => p.fr) (allc (Y.nO 4 [0] rfl rfl) alln) ?_
                            rintro v10 hv12 ⟨gS2_9, gG1_9, r2, PP, rfl, T⟩
                            have Y : Sy _ _ hv12 [_, _, _, _, _] := Y.call2 [0, 1, 2, 3, 4] rfl (A := [_]) rfl rfl PP ⟨rfl, trivial⟩
                            clear PP
                            refine ⟨r2, rfl, ?_⟩
                            exact ⟨_, Y.pick [] rfl, rfl, T⟩
                          · exact ⟨_, Y.pick [] rfl, rfl, T⟩
                        · exact ⟨_, Y.pick [] rfl, rfl, T⟩
                      · exact ⟨_, Y.pick [] rfl, rfl, T⟩
                    · exact ⟨_, Y.pick [] rfl, rfl, T⟩
                  · exact ⟨_, Y.pick [] rfl, rfl, T⟩
                · exact ⟨_, Y.pick [] rfl, rfl, T⟩
              · exact ⟨_, Y.pick [] rfl, rfl, T⟩
            · exact ⟨_, Y.pick [] rfl, rfl, T⟩
          · exact ⟨_, Y.pick [] rfl, rfl, T⟩
        · exact ⟨_, Y.pick [] rfl, rfl, T⟩
      · exact ⟨_, Y.pick [] rfl, rfl, T⟩
end Go.Proofs.Ytmcloipjlihhlaa.N
