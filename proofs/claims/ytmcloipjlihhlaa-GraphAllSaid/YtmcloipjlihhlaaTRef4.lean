/- Functions: what is left to be shown of each, over memory and without: printed by program, tied to the loaded functions by the kernel. Conditions: none. -/
import Derived.Test.YtmcloipjlihhlaaSEnv
import Derived.Test.YtmcloipjlihhlaaYMore
import Derived.Test.YtmcloipjlihhlaaTNet
namespace Go.Proofs.Ytmcloipjlihhlaa.N
open Go.Proofs.Ytmcloipjlihhlaa
open Go.X
set_option maxRecDepth 100000
set_option linter.unusedVariables false
set_option linter.unusedSimpArgs false
set_option maxHeartbeats 2000000

/-- (*tracery/traceryref4.Graph).node -/
def S219 (gP : Option Addr) (v : Int) (h : Heap) (R : Value → Heap → Prop) : Prop :=
  ∃ (Iv : List Value → Heap → Prop) (m : List Value → Heap → Nat), Iv [.int .i64 0] h ∧ -- loop 0: ['i']
  ∀ i : Int, ∀ hv, Iv [.int .i64 i] hv →
  ∃ b o, gP = some ⟨b, o, none⟩ ∧ ∃ (xA : Option Addr) (xL xC : Nat), hcell hv b o = some (.slice xA xL xC) ∧ cnd (decide (i < ((xL : Nat) : Int)))
    (∃ b2 o2, gP = some ⟨b2, o2, none⟩ ∧ ∃ (xA2 : Option Addr) (xL2 xC2 : Nat), hcell hv b2 o2 = some (.slice xA2 xL2 xC2) ∧ ∃ b3 o3, xA2 = some ⟨b3, o3, none⟩ ∧ 0 ≤ i ∧ i < (xL2 : Nat) ∧ ∃ x : Int, hcell hv b3 (o3 + (Int.toNat i) * 1) = some (.int .i64 x) ∧ cnd (x == v)
      (R (.int .i64 i) hv)
      (Iv [.int .i64 (IntKind.i64.wrap (i + (1 : Int)))] hv ∧ m [.int .i64 (IntKind.i64.wrap (i + (1 : Int)))] hv < m [.int .i64 i] hv))
    (R (.int .i64 (-1)) hv)
theorem calls219 {h : Heap} {R : Value → Heap → Prop} (gP : Option Addr) (v : Int) (H : S219 gP v h R) : CallsH Try.prog 219 #[.pointer gP, .int .i64 v] h R := by
  have e : S219 gP v h R = FX (envX [] 27) { loops := [(0, ⟨[0, 1], [5], [], []⟩)], joins := [], blocks := [], draws := [] } Try.f219 (Try.f219.body.getD .skip) [.pointer gP, .int .i64 v] h R := by kernel_rfl
  exact calls_of_FX (envX_ok _ _) Try.func219 (by kernel_rfl) (by kernel_rfl) (by kernel_rfl) (e ▸ H)
/-- (*tracery/traceryref4.Graph).node -/
def Ok219v (nodesV : List Int) (edgesV : List (Int × Int × Int)) (nodeV : Int) (edgeIDV : Int) (lastV : Int) (v : Int) (R : Int → Prop) : Prop :=
  ∀ (h : Heap) (gB2 gO : Nat) (nodesVA : Option Addr) (nodesVL nodesVC : Nat) (edgesVA : Option Addr) (edgesVL edgesVC : Nat) (marksVA : Option Addr) (marksVL marksVC : Nat), Hp h [Ck.vob gB2 gO [.slice nodesVA nodesVL nodesVC, .slice edgesVA edgesVL edgesVC, .int .i64 nodeV, .int .i64 edgeIDV, .slice marksVA marksVL marksVC, .int .i64 lastV], Ck.vw eI nodesVA nodesVL nodesVC nodesV, Ck.vw e3 edgesVA edgesVL edgesVC edgesV] → CallsH Try.prog 219 #[.pointer (some ⟨gB2, gO, none⟩), .int .i64 v] h fun v h' => ∃ (rV : Int), Sy h [] h' [] ∧ v = .int .i64 rV ∧ R rV
theorem Ok219v.mono {nodesV edgesV nodeV edgeIDV lastV v} {R R' : Int → Prop} (H : Ok219v nodesV edgesV nodeV edgeIDV lastV v R) (kz : ∀ rV, R rV → R' rV) : Ok219v nodesV edgesV nodeV edgeIDV lastV v R' :=
  fun h gB2 gO nodesVA nodesVL nodesVC edgesVA edgesVL edgesVC marksVA marksVL marksVC hp => (H h gB2 gO nodesVA nodesVL nodesVC edgesVA edgesVL edgesVC marksVA marksVL marksVC hp).mono fun _ _ ⟨rV, P, e, q⟩ => ⟨rV, P, e, kz _ q⟩
def T219v (nodesV : List Int) (edgesV : List (Int × Int × Int)) (nodeV : Int) (edgeIDV : Int) (lastV : Int) (v : Int) (R : Int → Prop) : Prop :=
  ∃ (Iv : Int → Prop) (m : Int → Nat), Iv 0 ∧
  ∀ i : Int, Iv i →
  cnd (decide (i < ((nodesV.length : Nat) : Int)))
    (0 ≤ i ∧ i < ((nodesV.length : Nat) : Int) ∧ ∀ x_2 : Int, nodesV[(Int.toNat i)]? = some x_2 → cnd (x_2 == v)
      (R i)
      (Iv (IntKind.i64.wrap (i + (1 : Int))) ∧ m (IntKind.i64.wrap (i + (1 : Int))) < m i))
    (R (-1))
theorem ok219v {nodesV edgesV nodeV edgeIDV lastV v} {R : Int → Prop} (T : T219v nodesV edgesV nodeV edgeIDV lastV v R) : Ok219v nodesV edgesV nodeV edgeIDV lastV v R := by
  intro h gB2 gO nodesVA nodesVL nodesVC edgesVA edgesVL edgesVC marksVA marksVL marksVC H
  have Y : Sy h [] h _ := Sy.startM H rfl
  obtain rfl := Y.lenV 1 rfl
  obtain rfl := Y.lenV 2 rfl
  apply calls219
  unfold S219
  unfold T219v at T
  obtain ⟨Iv, m, T0, T1⟩ := T
  obtain ⟨B, hB, YB⟩ := Y.cut [] [0, 1, 2] rfl
  obtain ⟨JJ, hJJ⟩ : ∃ JJ : Nat → List Value → Heap → Prop, JJ = (fun k lz h' => ∃ (i : Int), lz = [.int .i64 i] ∧ Sy h [] h' ([] ++ B) ∧ Iv i ∧ m i = k) := ⟨_, rfl⟩
  refine ⟨fun lz h' => ∃ k, JJ k lz h', Lm JJ, ?_, ?_⟩
  · subst hJJ hB
    exact ⟨_, _, rfl, YB, T0, rfl⟩
  · clear YB T0 Y
    intro i hv hI
    obtain ⟨k, hI, hm⟩ := loopIn hI
    subst hJJ hB
    obtain ⟨i, e, Y, T, rfl⟩ := hI
    cases e
    replace T := T1 i T
    have Y : Sy _ _ _ [_, _, _] := Y
    refine ⟨gB2, gO, rfl, ?_⟩
    refine ⟨_, _, _, Y.cellW 0 rfl 0 rfl, ?_⟩
    refine cnd_imp T (fun T => ?_) (fun T => ?_)
    · refine ⟨gB2, gO, rfl, ?_⟩
      refine ⟨_, _, _, Y.cellW 0 rfl 0 rfl, ?_⟩
      obtain ⟨q, q_2, T⟩ := T
      obtain ⟨b_2, o_2, hb, hr, x_2, hx⟩ := Y.atV 1 rfl q q_2
      refine ⟨b_2, o_2, hb, q, q_2, ?_⟩
      replace T := T x_2 hx
      refine ⟨_, Y.cellV 1 rfl hb (t := 0) hx rfl, ?_⟩
      refine cnd_imp T (fun T => ?_) (fun T => ?_)
      · exact ⟨_, Y.pick [] rfl, rfl, T⟩
      · exact loopBack hm ⟨_, rfl, Y.pick [0, 1, 2] rfl, T.1, rfl⟩ T.2
    · exact ⟨_, Y.pick [] rfl, rfl, T⟩
/-- (*tracery/traceryref4.Graph).edge -/
def S221 (gP : Option Addr) (ev : Int) (h : Heap) (R : Value → Heap → Prop) : Prop :=
  ∃ (Iv : List Value → Heap → Prop) (m : List Value → Heap → Nat), Iv [.int .i64 0] h ∧ -- loop 0: ['i']
  ∀ i : Int, ∀ hv, Iv [.int .i64 i] hv →
  ∃ b o, gP = some ⟨b, o, none⟩ ∧ ∃ (xA : Option Addr) (xL xC : Nat), hcell hv b (o + 1) = some (.slice xA xL xC) ∧ cnd (decide (i < ((xL : Nat) : Int)))
    (∃ b2 o2, gP = some ⟨b2, o2, none⟩ ∧ ∃ (xA2 : Option Addr) (xL2 xC2 : Nat), hcell hv b2 (o2 + 1) = some (.slice xA2 xL2 xC2) ∧ ∃ b3 o3, xA2 = some ⟨b3, o3, none⟩ ∧ 0 ≤ i ∧ i < (xL2 : Nat) ∧ ∃ x : Int, hcell hv b3 (o3 + (Int.toNat i) * 3) = some (.int .i64 x) ∧ cnd (x == ev)
      (R (.int .i64 i) hv)
      (Iv [.int .i64 (IntKind.i64.wrap (i + (1 : Int)))] hv ∧ m [.int .i64 (IntKind.i64.wrap (i + (1 : Int)))] hv < m [.int .i64 i] hv))
    (R (.int .i64 (-1)) hv)
theorem calls221 {h : Heap} {R : Value → Heap → Prop} (gP : Option Addr) (ev : Int) (H : S221 gP ev h R) : CallsH Try.prog 221 #[.pointer gP, .int .i64 ev] h R := by
  have e : S221 gP ev h R = FX (envX [] 28) { loops := [(0, ⟨[0, 1], [5], [], []⟩)], joins := [], blocks := [], draws := [] } Try.f221 (Try.f221.body.getD .skip) [.pointer gP, .int .i64 ev] h R := by kernel_rfl
  exact calls_of_FX (envX_ok _ _) Try.func221 (by kernel_rfl) (by kernel_rfl) (by kernel_rfl) (e ▸ H)
/-- (*tracery/traceryref4.Graph).edge -/
def Ok221v (nodesV : List Int) (edgesV : List (Int × Int × Int)) (nodeV : Int) (edgeIDV : Int) (lastV : Int) (ev : Int) (R : Int → Prop) : Prop :=
  ∀ (h : Heap) (gB2 gO : Nat) (nodesVA : Option Addr) (nodesVL nodesVC : Nat) (edgesVA : Option Addr) (edgesVL edgesVC : Nat) (marksVA : Option Addr) (marksVL marksVC : Nat), Hp h [Ck.vob gB2 gO [.slice nodesVA nodesVL nodesVC, .slice edgesVA edgesVL edgesVC, .int .i64 nodeV, .int .i64 edgeIDV, .slice marksVA marksVL marksVC, .int .i64 lastV], Ck.vw eI nodesVA nodesVL nodesVC nodesV, Ck.vw e3 edgesVA edgesVL edgesVC edgesV] → CallsH Try.prog 221 #[.pointer (some ⟨gB2, gO, none⟩), .int .i64 ev] h fun v h' => ∃ (rV : Int), Sy h [] h' [] ∧ v = .int .i64 rV ∧ R rV
theorem Ok221v.mono {nodesV edgesV nodeV edgeIDV lastV ev} {R R' : Int → Prop} (H : Ok221v nodesV edgesV nodeV edgeIDV lastV ev R) (kz : ∀ rV, R rV → R' rV) : Ok221v nodesV edgesV nodeV edgeIDV lastV ev R' :=
  fun h gB2 gO nodesVA nodesVL nodesVC edgesVA edgesVL edgesVC marksVA marksVL marksVC hp => (H h gB2 gO nodesVA nodesVL nodesVC edgesVA edgesVL edgesVC marksVA marksVL marksVC hp).mono fun _ _ ⟨rV, P, e, q⟩ => ⟨rV, P, e, kz _ q⟩
def T221v (nodesV : List Int) (edgesV : List (Int × Int × Int)) (nodeV : Int) (edgeIDV : Int) (lastV : Int) (ev : Int) (R : Int → Prop) : Prop :=
  ∃ (Iv : Int → Prop) (m : Int → Nat), Iv 0 ∧
  ∀ i : Int, Iv i →
  cnd (decide (i < ((edgesV.length : Nat) : Int)))
    (0 ≤ i ∧ i < ((edgesV.length : Nat) : Int) ∧ ∀ x_2 : (Int × Int × Int), edgesV[(Int.toNat i)]? = some x_2 → cnd (x_2.1 == ev)
      (R i)
      (Iv (IntKind.i64.wrap (i + (1 : Int))) ∧ m (IntKind.i64.wrap (i + (1 : Int))) < m i))
    (R (-1))
theorem ok221v {nodesV edgesV nodeV edgeIDV lastV ev} {R : Int → Prop} (T : T221v nodesV edgesV nodeV edgeIDV lastV ev R) : Ok221v nodesV edgesV nodeV edgeIDV lastV ev R := by
  intro h gB2 gO nodesVA nodesVL nodesVC edgesVA edgesVL edgesVC marksVA marksVL marksVC H
  have Y : Sy h [] h _ := Sy.startM H rfl
  obtain rfl := Y.lenV 1 rfl
  obtain rfl := Y.lenV 2 rfl
  apply calls221
  unfold S221
  unfold T221v at T
  obtain ⟨Iv, m, T0, T1⟩ := T
  obtain ⟨B, hB, YB⟩ := Y.cut [] [0, 1, 2] rfl
  obtain ⟨JJ, hJJ⟩ : ∃ JJ : Nat → List Value → Heap → Prop, JJ = (fun k lz h' => ∃ (i : Int), lz = [.int .i64 i] ∧ Sy h [] h' ([] ++ B) ∧ Iv i ∧ m i = k) := ⟨_, rfl⟩
  refine ⟨fun lz h' => ∃ k, JJ k lz h', Lm JJ, ?_, ?_⟩
  · subst hJJ hB
    exact ⟨_, _, rfl, YB, T0, rfl⟩
  · clear YB T0 Y
    intro i hv hI
    obtain ⟨k, hI, hm⟩ := loopIn hI
    subst hJJ hB
    obtain ⟨i, e, Y, T, rfl⟩ := hI
    cases e
    replace T := T1 i T
    have Y : Sy _ _ _ [_, _, _] := Y
    refine ⟨gB2, gO, rfl, ?_⟩
    refine ⟨_, _, _, Y.cellW 0 rfl 1 rfl, ?_⟩
    refine cnd_imp T (fun T => ?_) (fun T => ?_)
    · refine ⟨gB2, gO, rfl, ?_⟩
      refine ⟨_, _, _, Y.cellW 0 rfl 1 rfl, ?_⟩
      obtain ⟨q, q_2, T⟩ := T
      obtain ⟨b_2, o_2, hb, hr, x_2, hx⟩ := Y.atV 2 rfl q q_2
      refine ⟨b_2, o_2, hb, q, q_2, ?_⟩
      replace T := T x_2 hx
      refine ⟨_, Y.cellV 2 rfl hb (t := 0) hx rfl, ?_⟩
      refine cnd_imp T (fun T => ?_) (fun T => ?_)
      · exact ⟨_, Y.pick [] rfl, rfl, T⟩
      · exact loopBack hm ⟨_, rfl, Y.pick [0, 1, 2] rfl, T.1, rfl⟩ T.2
    · exact ⟨_, Y.pick [] rfl, rfl, T⟩
/-- (tracery/traceryref4.State).copy -/
def S220 (sA : Option Addr) (sL sC : Nat) (sA2 : Option Addr) (sL2 sC2 : Nat) (s : Int) (s2 : Int) (h : Heap) (R : Value → Heap → Prop) : Prop :=
  let hv : Heap := h.push (.cells #[.slice sA sL sC, .slice sA2 sL2 sC2, .int .i64 s, .int .i64 s2] 152)
  let hv2 : Heap := hv.push (.cells #[.slice none 0 0, .slice none 0 0, .int .i64 0, .int .i64 0] 152)
  ∃ xs : List Value, Reads hv2 1 sA sL xs ∧ (sA = none → sC = 0) ∧ (∀ v ∈ xs, v.oneCell' = true) ∧ ∃ old, Ownd hv2 3 1 none 0 0 old ∧ (∀ b ∈ ([hv.size, h.size] : List Nat), b ∉ blkOf none) ∧ (0 + sL) * 8 ≤ 140737488355328 ∧ (0 + sL) ≤ maxLen ∧
  ∀ sA3 sC3 hv3, Ownd hv3 3 1 sA3 (0 + sL) sC3 (old ++ xs) → Fr (blkOf none) hv2 hv3 → ((sA3 = none ∧ sC3 = 0) ∨ ∃ g, sA3 = some ⟨g, 0, none⟩ ∧ hv2.size ≤ g) → (0 < (0 + sL) → Fr [] hv2 hv3) →
  let hv4 : Heap := hset hv3 h.size 0 (.slice sA3 (0 + sL) sC3)
  ∃ xs2 : List Value, Reads hv4 3 sA2 sL2 xs2 ∧ (sA2 = none → sC2 = 0) ∧ (∀ v ∈ xs2, v.oneCell' = true) ∧ ∃ old2, Ownd hv4 239 3 none 0 0 old2 ∧ (∀ b ∈ ([hv.size, h.size] : List Nat), b ∉ blkOf none) ∧ (0 + sL2) * 24 ≤ 140737488355328 ∧ (0 + sL2) ≤ maxLen ∧
  ∀ sA4 sC4 hv5, Ownd hv5 239 3 sA4 (0 + sL2) sC4 (old2 ++ xs2) → Fr (blkOf none) hv4 hv5 → ((sA4 = none ∧ sC4 = 0) ∨ ∃ g, sA4 = some ⟨g, 0, none⟩ ∧ hv4.size ≤ g) → (0 < (0 + sL2) → Fr [] hv4 hv5) →
  let hv6 : Heap := hset hv5 h.size 1 (.slice sA4 (0 + sL2) sC4)
  let hv7 : Heap := hset (hset (hset (hset hv6 hv.size 0 (.slice sA3 (0 + sL) sC3)) hv.size (0 + 1) (.slice sA4 (0 + sL2) sC4)) hv.size ((0 + 1) + 1) (.int .i64 s)) hv.size (((0 + 1) + 1) + 1) (.int .i64 s2)
  R (.agg #[.slice sA3 (0 + sL) sC3, .slice sA4 (0 + sL2) sC4, .int .i64 s, .int .i64 s2]) hv7
theorem calls220 {h : Heap} {R : Value → Heap → Prop} (sA : Option Addr) (sL sC : Nat) (sA2 : Option Addr) (sL2 sC2 : Nat) (s : Int) (s2 : Int) (H : S220 sA sL sC sA2 sL2 sC2 s s2 h R) : CallsH Try.prog 220 #[.agg #[.slice sA sL sC, .slice sA2 sL2 sC2, .int .i64 s, .int .i64 s2]] h R := by
  have e : S220 sA sL sC sA2 sL2 sC2 s s2 h R = FX (envX [1, 2] 12) { loops := [], joins := [], blocks := [], draws := [] } Try.f220 (Try.f220.body.getD .skip) [.agg #[.slice sA sL sC, .slice sA2 sL2 sC2, .int .i64 s, .int .i64 s2]] h R := by kernel_rfl
  exact calls_of_FX (envX_ok _ _) Try.func220 (by kernel_rfl) (by kernel_rfl) (by kernel_rfl) (e ▸ H)
/-- (tracery/traceryref4.State).copy -/
def Ok220 (nodesV : List Int) (edgesV : List (Int × Int × Int)) (s : Int) (s2 : Int) (R : List Int → List (Int × Int × Int) → Int → Int → Prop) : Prop :=
  ∀ (h : Heap) (sA : Option Addr) (sL sC : Nat) (sA2 : Option Addr) (sL2 sC2 : Nat), Hp h [Ck.vw eI sA sL sC nodesV, Ck.vw e3 sA2 sL2 sC2 edgesV] → CallsH Try.prog 220 #[.agg #[.slice sA sL sC, .slice sA2 sL2 sC2, .int .i64 s, .int .i64 s2]] h fun v h' => ∃ (nodesVA : Option Addr) (nodesVL nodesVC : Nat) (nodesV2 : List Int) (edgesVA : Option Addr) (edgesVL edgesVC : Nat) (edgesV2 : List (Int × Int × Int)) (nodeV : Int) (edgeIDV : Int), Sy h [] h' [Ck.sl eI 3 nodesVA nodesVL nodesVC nodesV2, Ck.sl e3 239 edgesVA edgesVL edgesVC edgesV2] ∧ v = .agg #[.slice nodesVA nodesVL nodesVC, .slice edgesVA edgesVL edgesVC, .int .i64 nodeV, .int .i64 edgeIDV] ∧ R nodesV2 edgesV2 nodeV edgeIDV
theorem Ok220.mono {nodesV edgesV s s2} {R R' : List Int → List (Int × Int × Int) → Int → Int → Prop} (H : Ok220 nodesV edgesV s s2 R) (kz : ∀ nodesV2 edgesV2 nodeV edgeIDV, R nodesV2 edgesV2 nodeV edgeIDV → R' nodesV2 edgesV2 nodeV edgeIDV) : Ok220 nodesV edgesV s s2 R' :=
  fun h sA sL sC sA2 sL2 sC2 hp => (H h sA sL sC sA2 sL2 sC2 hp).mono fun _ _ ⟨nodesVA, nodesVL, nodesVC, nodesV2, edgesVA, edgesVL, edgesVC, edgesV2, nodeV, edgeIDV, P, e, q⟩ => ⟨nodesVA, nodesVL, nodesVC, nodesV2, edgesVA, edgesVL, edgesVC, edgesV2, nodeV, edgeIDV, P, e, kz _ _ _ _ q⟩
def T220 (nodesV : List Int) (edgesV : List (Int × Int × Int)) (s : Int) (s2 : Int) (R : List Int → List (Int × Int × Int) → Int → Int → Prop) : Prop :=
  (0 + nodesV.length) < 1000000000000 ∧ (0 + edgesV.length) < 1000000000000 ∧ R (([] : List Int) ++ nodesV) (([] : List (Int × Int × Int)) ++ edgesV) s s2
theorem ok220 {nodesV edgesV s s2} {R : List Int → List (Int × Int × Int) → Int → Int → Prop} (T : T220 nodesV edgesV s s2 R) : Ok220 nodesV edgesV s s2 R := by
  intro h sA sL sC sA2 sL2 sC2 H
  have Y : Sy h [] h _ := Sy.startM H rfl
  obtain rfl := Y.lenV 0 rfl
  obtain rfl := Y.lenV 1 rfl
  apply calls220
  unfold S220
  unfold T220 at T
  intro hv
  have Y : Sy _ _ hv [_, _, _] := Y.junk _
  clear_value hv
  intro hv2
  have Y : Sy _ _ hv2 [_, _, _, _] := Y.junk _
  clear_value hv2
  refine ⟨_, Y.readsV 0 rfl, (Y.capV 0 rfl).2, En.l_one _, ?_⟩
  have Y : Sy _ _ _ [_, _, _, _, _] := Y.nilS eI 3
  obtain ⟨q, T⟩ := T
  refine ⟨_, Y.ownS 4 rfl, (allc (Y.nJ 4 3 rfl rfl rfl) (allc (Y.nJ 4 2 rfl rfl rfl) alln)), by first | exact appB q (by decide) | omega, by first | exact appM q | (simp [maxLen]; omega), ?_⟩
  intro sA3 sC3 hv3 ow fA gA gB
  have Y : Sy _ _ hv3 [_, _, _, _, _] := Y.appS 4 rfl nodesV ow fA gA rfl (by first | rfl | simp)
  intro hv4
  have Y : Sy _ _ hv4 [_, _, _, _, _] := (Y.stJ 2 rfl _ _)
  clear_value hv4
  refine ⟨_, Y.readsV 1 rfl, (Y.capV 1 rfl).2, En.l_one _, ?_⟩
  have Y : Sy _ _ _ [_, _, _, _, _, _] := Y.nilS e3 239
  obtain ⟨q_2, T⟩ := T
  refine ⟨_, Y.ownS 5 rfl, (allc (Y.nJ 5 3 rfl rfl rfl) (allc (Y.nJ 5 2 rfl rfl rfl) alln)), by first | exact appB q_2 (by decide) | omega, by first | exact appM q_2 | (simp [maxLen]; omega), ?_⟩
  intro sA4 sC4 hv5 ow fA gA gB
  have Y : Sy _ _ hv5 [_, _, _, _, _, _] := Y.appS 5 rfl edgesV ow fA gA rfl (by first | rfl | simp)
  intro hv6
  have Y : Sy _ _ hv6 [_, _, _, _, _, _] := (Y.stJ 2 rfl _ _)
  clear_value hv6
  intro hv7
  have Y : Sy _ _ hv7 [_, _, _, _, _, _] := ((((Y.stJ 3 rfl _ _).stJ 3 rfl _ _).stJ 3 rfl _ _).stJ 3 rfl _ _)
  clear_value hv7
  exact ⟨_, _, _, _, _, _, _, _, _, _, Y.pick [4, 5] rfl, rfl, T⟩
/-- (*tracery/traceryref4.Graph).AddNode -/
def S186 (gP : Option Addr) (h : Heap) (R : Value → Heap → Prop) : Prop :=
  ∃ b o, gP = some ⟨b, o, none⟩ ∧ ∃ (xA : Option Addr) (xL xC : Nat), hcell h b o = some (.slice xA xL xC) ∧ cnd (((xL : Nat) : Int) == (1024 : Int))
    (R (.tuple #[.int .i64 0, .int .i64 3]) h)
    (∃ b2 o2, gP = some ⟨b2, o2, none⟩ ∧ ∃ x : Int, hcell h b2 (o2 + 2) = some (.int .i64 x) ∧ ∃ b3 o3, gP = some ⟨b3, o3, none⟩ ∧ (∃ u, hcell h b3 (o3 + 2) = some u) ∧ hfree h b3 (o3 + 2) = true ∧ let hv : Heap := hset h b3 (o3 + 2) (.int .i64 (IntKind.i64.wrap (x + (1 : Int))))
    ∃ Mv : List Nat, (∀ b ∈ ([] : List Nat), b ∉ Mv) ∧
    ∃ b4 o4, gP = some ⟨b4, o4, none⟩ ∧ b4 ∉ Mv ∧ ∃ (xA2 : Option Addr) (xL2 xC2 : Nat), hcell hv b4 o4 = some (.slice xA2 xL2 xC2) ∧ ∃ b5 o5, gP = some ⟨b5, o5, none⟩ ∧ b5 ∉ Mv ∧ ∃ x2 : Int, hcell hv b5 (o5 + 2) = some (.int .i64 x2) ∧ let hv2 : Heap := hv.push (.cells #[.int .i64 x2] 3)
    Fr Mv hv hv2 ∧
    ∃ old, Ownd hv2 3 1 xA2 xL2 xC2 old ∧ (∀ b ∈ ([hv.size] : List Nat), b ∉ blkOf xA2) ∧ (xL2 + 1) * 8 ≤ 140737488355328 ∧ (xL2 + 1) ≤ maxLen ∧
    ∀ sA sC hv3, Ownd hv3 3 1 sA (xL2 + 1) sC (old ++ [.int .i64 x2]) → Fr (blkOf xA2) hv2 hv3 → ((sA = xA2 ∧ sC = xC2) ∨ ∃ g, sA = some ⟨g, 0, none⟩ ∧ hv2.size ≤ g) → (xC2 < (xL2 + 1) → Fr [] hv2 hv3) →
    Fr Mv hv hv3 ∧
    ∃ b6 o6, gP = some ⟨b6, o6, none⟩ ∧ b6 ≠ hv.size ∧ (∃ u, hcell hv3 b6 o6 = some u) ∧ hfree hv3 b6 o6 = true ∧ let hv4 : Heap := hset hv3 b6 o6 (.slice sA (xL2 + 1) sC)
    ∃ b7 o7, gP = some ⟨b7, o7, none⟩ ∧ ∃ x3 : Int, hcell hv4 b7 (o7 + 2) = some (.int .i64 x3) ∧ R (.tuple #[.int .i64 x3, .int .i64 0]) hv4)
theorem calls186 {h : Heap} {R : Value → Heap → Prop} (gP : Option Addr) (H : S186 gP h R) : CallsH Try.prog 186 #[.pointer gP] h R := by
  have e : S186 gP h R = FX (envX [31] 41) { loops := [], joins := [], blocks := [], draws := [(4, ⟨13, true⟩)] } Try.f186 (Try.f186.body.getD .skip) [.pointer gP] h R := by kernel_rfl
  exact calls_of_FX (envX_ok _ _) Try.func186 (by kernel_rfl) (by kernel_rfl) (by kernel_rfl) (e ▸ H)
/-- (*tracery/traceryref4.Graph).AddNode -/
def Ok186v (nodesV : List Int) (edgesV : List (Int × Int × Int)) (nodeV : Int) (edgeIDV : Int) (lastV : Int) (R : List Int → List (Int × Int × Int) → Int → Int → Int → Int → Int → Prop) : Prop :=
  ∀ (h : Heap) (gB2 : Nat) (nodesVA : Option Addr) (nodesVL nodesVC : Nat) (edgesVA : Option Addr) (edgesVL edgesVC : Nat) (marksVA : Option Addr) (marksVL marksVC : Nat), Hp h [Ck.ob gB2 155 [.slice nodesVA nodesVL nodesVC, .slice edgesVA edgesVL edgesVC, .int .i64 nodeV, .int .i64 edgeIDV, .slice marksVA marksVL marksVC, .int .i64 lastV], Ck.sl eI 3 nodesVA nodesVL nodesVC nodesV, Ck.sl e3 239 edgesVA edgesVL edgesVC edgesV] → CallsH Try.prog 186 #[.pointer (some ⟨gB2, 0, none⟩)] h fun v h' => ∃ (nodesVA2 : Option Addr) (nodesVL2 nodesVC2 : Nat) (nodesV1 : List Int) (edgesVA2 : Option Addr) (edgesVL2 edgesVC2 : Nat) (edgesV1 : List (Int × Int × Int)) (nodeV2 : Int) (edgeIDV2 : Int) (lastV2 : Int) (raV : Int) (rbV : Int), Sy h (owns [Ck.ob gB2 155 [.slice nodesVA nodesVL nodesVC, .slice edgesVA edgesVL edgesVC, .int .i64 nodeV, .int .i64 edgeIDV, .slice marksVA marksVL marksVC, .int .i64 lastV], Ck.sl eI 3 nodesVA nodesVL nodesVC nodesV, Ck.sl e3 239 edgesVA edgesVL edgesVC edgesV]) h' [Ck.ob gB2 155 [.slice nodesVA2 nodesVL2 nodesVC2, .slice edgesVA2 edgesVL2 edgesVC2, .int .i64 nodeV2, .int .i64 edgeIDV2, .slice marksVA marksVL marksVC, .int .i64 lastV2], Ck.sl eI 3 nodesVA2 nodesVL2 nodesVC2 nodesV1, Ck.sl e3 239 edgesVA2 edgesVL2 edgesVC2 edgesV1] ∧ v = .tuple #[.int .i64 raV, .int .i64 rbV] ∧ R nodesV1 edgesV1 nodeV2 edgeIDV2 lastV2 raV rbV
theorem Ok186v.mono {nodesV edgesV nodeV edgeIDV lastV} {R R' : List Int → List (Int × Int × Int) → Int → Int → Int → Int → Int → Prop} (H : Ok186v nodesV edgesV nodeV edgeIDV lastV R) (kz : ∀ nodesV1 edgesV1 nodeV2 edgeIDV2 lastV2 raV rbV, R nodesV1 edgesV1 nodeV2 edgeIDV2 lastV2 raV rbV → R' nodesV1 edgesV1 nodeV2 edgeIDV2 lastV2 raV rbV) : Ok186v nodesV edgesV nodeV edgeIDV lastV R' :=
  fun h gB2 nodesVA nodesVL nodesVC edgesVA edgesVL edgesVC marksVA marksVL marksVC hp => (H h gB2 nodesVA nodesVL nodesVC edgesVA edgesVL edgesVC marksVA marksVL marksVC hp).mono fun _ _ ⟨nodesVA2, nodesVL2, nodesVC2, nodesV1, edgesVA2, edgesVL2, edgesVC2, edgesV1, nodeV2, edgeIDV2, lastV2, raV, rbV, P, e, q⟩ => ⟨nodesVA2, nodesVL2, nodesVC2, nodesV1, edgesVA2, edgesVL2, edgesVC2, edgesV1, nodeV2, edgeIDV2, lastV2, raV, rbV, P, e, kz _ _ _ _ _ _ _ q⟩
def T186v (nodesV : List Int) (edgesV : List (Int × Int × Int)) (nodeV : Int) (edgeIDV : Int) (lastV : Int) (R : List Int → List (Int × Int × Int) → Int → Int → Int → Int → Int → Prop) : Prop :=
  cnd (((nodesV.length : Nat) : Int) == (1024 : Int))
    (R nodesV edgesV nodeV edgeIDV lastV 0 3)
    ((nodesV.length + 1) < 1000000000000 ∧ R (nodesV ++ [(IntKind.i64.wrap (nodeV + (1 : Int)))]) edgesV (IntKind.i64.wrap (nodeV + (1 : Int))) edgeIDV lastV (IntKind.i64.wrap (nodeV + (1 : Int))) 0)
theorem ok186v {nodesV edgesV nodeV edgeIDV lastV} {R : List Int → List (Int × Int × Int) → Int → Int → Int → Int → Int → Prop} (T : T186v nodesV edgesV nodeV edgeIDV lastV R) : Ok186v nodesV edgesV nodeV edgeIDV lastV R := by
  intro h gB2 nodesVA nodesVL nodesVC edgesVA edgesVL edgesVC marksVA marksVL marksVC H
  have Y : Sy h (owns [Ck.ob gB2 155 [.slice nodesVA nodesVL nodesVC, .slice edgesVA edgesVL edgesVC, .int .i64 nodeV, .int .i64 edgeIDV, .slice marksVA marksVL marksVC, .int .i64 lastV], Ck.sl eI 3 nodesVA nodesVL nodesVC nodesV, Ck.sl e3 239 edgesVA edgesVL edgesVC edgesV]) h _ := Sy.startM H rfl
  obtain rfl := Y.lenS 1 rfl
  obtain rfl := Y.lenS 2 rfl
  apply calls186
  unfold S186
  unfold T186v at T
  refine ⟨gB2, 0, rfl, ?_⟩
  refine ⟨_, _, _, Y.cellO 0 rfl 0 rfl, ?_⟩
  refine cnd_imp T (fun T => ?_) (fun T => ?_)
  · exact ⟨_, _, _, _, _, _, _, _, _, _, _, _, _, Y.pick [0, 1, 2] rfl, rfl, T⟩
  · refine ⟨gB2, 0, rfl, ?_⟩
    refine ⟨_, Y.cellO 0 rfl 2 rfl, ?_⟩
    refine ⟨gB2, 0, rfl, ?_⟩
    refine ⟨⟨_, Y.cellO 0 rfl 2 rfl⟩, Y.freeO 0 rfl _, ?_⟩
    intro hv
    have Y : Sy _ _ hv [_, _, _] := (Y.stO 0 rfl 2 _)
    clear_value hv
    have Y0 := Y
    obtain ⟨Mx, hMx⟩ := Y.mt [1] []
    refine ⟨Mx, ?_⟩
    subst hMx
    refine ⟨alln, ?_⟩
    have F : Fr _ hv hv := Y0.frM [1] []
    refine ⟨gB2, 0, rfl, ?_⟩
    refine ⟨(Y0.nMo 0 [1] [] rfl rfl (by simp [Ck.ob])), ?_⟩
    refine ⟨_, _, _, Y0.cellO 0 rfl 0 rfl, ?_⟩
    refine ⟨gB2, 0, rfl, ?_⟩
    refine ⟨(Y0.nMo 0 [1] [] rfl rfl (by simp [Ck.ob])), ?_⟩
    refine ⟨_, Y0.cellO 0 rfl 2 rfl, ?_⟩
    intro hv2
    have Y : Sy _ _ hv2 [_, _, _, _] := Y.junk _
    have F : Fr _ _ hv2 := F.pushr _
    have fshv2 := F.size
    clear_value hv2
    refine ⟨F, ?_⟩
    obtain ⟨q, T⟩ := T
    refine ⟨_, Y.ownS 1 rfl, (allc (Y.nJ 1 3 rfl rfl rfl) alln), by first | exact appB q (by decide) | omega, by first | exact appM q | (simp [maxLen]; omega), ?_⟩
    intro sA sC hv3 ow fA gA gB
    have Y : Sy _ _ hv3 [_, _, _, _] := Y.appS 1 rfl ([(IntKind.i64.wrap (nodeV + (1 : Int)))] : List Int) ow fA gA rfl rfl
    have ns := F.appIn (Y0.inMo 1 [1] [] rfl rfl) gA fshv2
    have F : Fr _ _ hv3 := F.comp fA (Y0.inMo 1 [1] [] rfl rfl)
    have fshv3 := F.size
    refine ⟨F, ?_⟩
    refine ⟨gB2, 0, rfl, ?_⟩
    refine ⟨(Y.neJ 0 3 rfl rfl rfl (by simp [Ck.ob])), ⟨_, Y.cellO 0 rfl 0 rfl⟩, Y.freeO 0 rfl _, ?_⟩
    intro hv4
    have Y : Sy _ _ hv4 [_, _, _, _] := (Y.stO 0 rfl 0 _)
    clear_value hv4
    refine ⟨gB2, 0, rfl, ?_⟩
    refine ⟨_, Y.cellO 0 rfl 2 rfl, ?_⟩
    exact ⟨_, _, _, _, _, _, _, _, _, _, _, _, _, Y.pick [0, 1, 2] rfl, rfl, T⟩
/-- (*tracery/traceryref4.Graph).AddEdge -/
def S187 (gP : Option Addr) (u : Int) (v : Int) (h : Heap) (R : Value → Heap → Prop) : Prop :=
  callX Try.prog 219 #[.pointer gP, .int .i64 u] h [] fun v2 hv =>
  ∃ r : Int, v2 = .int .i64 r ∧
  cnd (decide (r < (0 : Int)))
    (R (.tuple #[.int .i64 0, .int .i64 2]) hv)
    (callX Try.prog 219 #[.pointer gP, .int .i64 v] hv [] fun v3 hv2 =>
    ∃ r2 : Int, v3 = .int .i64 r2 ∧
    cnd (decide (r2 < (0 : Int)))
      (R (.tuple #[.int .i64 0, .int .i64 2]) hv2)
      (∃ b o, gP = some ⟨b, o, none⟩ ∧ ∃ (xA : Option Addr) (xL xC : Nat), hcell hv2 b (o + 1) = some (.slice xA xL xC) ∧ cnd (((xL : Nat) : Int) == (3072 : Int))
        (R (.tuple #[.int .i64 0, .int .i64 3]) hv2)
        (∃ b2 o2, gP = some ⟨b2, o2, none⟩ ∧ ∃ x : Int, hcell hv2 b2 (o2 + 3) = some (.int .i64 x) ∧ ∃ b3 o3, gP = some ⟨b3, o3, none⟩ ∧ (∃ u, hcell hv2 b3 (o3 + 3) = some u) ∧ hfree hv2 b3 (o3 + 3) = true ∧ let hv3 : Heap := hset hv2 b3 (o3 + 3) (.int .i64 (IntKind.i64.wrap (x + (1 : Int))))
        ∃ Mv : List Nat, (∀ b ∈ ([] : List Nat), b ∉ Mv) ∧
        ∃ b4 o4, gP = some ⟨b4, o4, none⟩ ∧ b4 ∉ Mv ∧ ∃ (xA2 : Option Addr) (xL2 xC2 : Nat), hcell hv3 b4 (o4 + 1) = some (.slice xA2 xL2 xC2) ∧ ∃ b5 o5, gP = some ⟨b5, o5, none⟩ ∧ b5 ∉ Mv ∧ ∃ x2 : Int, hcell hv3 b5 (o5 + 3) = some (.int .i64 x2) ∧ let hv4 : Heap := hv3.push (.cells #[.int .i64 x2, .int .i64 u, .int .i64 v] 239)
        Fr Mv hv3 hv4 ∧
        ∃ old, Ownd hv4 239 3 xA2 xL2 xC2 old ∧ (∀ b ∈ ([hv3.size] : List Nat), b ∉ blkOf xA2) ∧ (xL2 + 1) * 24 ≤ 140737488355328 ∧ (xL2 + 1) ≤ maxLen ∧
        ∀ sA sC hv5, Ownd hv5 239 3 sA (xL2 + 1) sC (old ++ [.int .i64 x2, .int .i64 u, .int .i64 v]) → Fr (blkOf xA2) hv4 hv5 → ((sA = xA2 ∧ sC = xC2) ∨ ∃ g, sA = some ⟨g, 0, none⟩ ∧ hv4.size ≤ g) → (xC2 < (xL2 + 1) → Fr [] hv4 hv5) →
        Fr Mv hv3 hv5 ∧
        ∃ b6 o6, gP = some ⟨b6, o6, none⟩ ∧ b6 ≠ hv3.size ∧ (∃ u, hcell hv5 b6 (o6 + 1) = some u) ∧ hfree hv5 b6 (o6 + 1) = true ∧ let hv6 : Heap := hset hv5 b6 (o6 + 1) (.slice sA (xL2 + 1) sC)
        ∃ b7 o7, gP = some ⟨b7, o7, none⟩ ∧ ∃ x3 : Int, hcell hv6 b7 (o7 + 3) = some (.int .i64 x3) ∧ R (.tuple #[.int .i64 x3, .int .i64 0]) hv6)))
theorem calls187 {h : Heap} {R : Value → Heap → Prop} (gP : Option Addr) (u : Int) (v : Int) (H : S187 gP u v h R) : CallsH Try.prog 187 #[.pointer gP, .int .i64 u, .int .i64 v] h R := by
  have e : S187 gP u v h R = FX (envX [48] 58) { loops := [], joins := [], blocks := [], draws := [(6, ⟨16, true⟩)] } Try.f187 (Try.f187.body.getD .skip) [.pointer gP, .int .i64 u, .int .i64 v] h R := by kernel_rfl
  exact calls_of_FX (envX_ok _ _) Try.func187 (by kernel_rfl) (by kernel_rfl) (by kernel_rfl) (e ▸ H)
/-- (*tracery/traceryref4.Graph).AddEdge -/
def Ok187v (nodesV : List Int) (edgesV : List (Int × Int × Int)) (nodeV : Int) (edgeIDV : Int) (lastV : Int) (u : Int) (v : Int) (R : List Int → List (Int × Int × Int) → Int → Int → Int → Int → Int → Prop) : Prop :=
  ∀ (h : Heap) (gB2 : Nat) (nodesVA : Option Addr) (nodesVL nodesVC : Nat) (edgesVA : Option Addr) (edgesVL edgesVC : Nat) (marksVA : Option Addr) (marksVL marksVC : Nat), Hp h [Ck.ob gB2 155 [.slice nodesVA nodesVL nodesVC, .slice edgesVA edgesVL edgesVC, .int .i64 nodeV, .int .i64 edgeIDV, .slice marksVA marksVL marksVC, .int .i64 lastV], Ck.sl eI 3 nodesVA nodesVL nodesVC nodesV, Ck.sl e3 239 edgesVA edgesVL edgesVC edgesV] → CallsH Try.prog 187 #[.pointer (some ⟨gB2, 0, none⟩), .int .i64 u, .int .i64 v] h fun v h' => ∃ (nodesVA2 : Option Addr) (nodesVL2 nodesVC2 : Nat) (nodesV1 : List Int) (edgesVA2 : Option Addr) (edgesVL2 edgesVC2 : Nat) (edgesV1 : List (Int × Int × Int)) (nodeV2 : Int) (edgeIDV2 : Int) (lastV2 : Int) (raV : Int) (rbV : Int), Sy h (owns [Ck.ob gB2 155 [.slice nodesVA nodesVL nodesVC, .slice edgesVA edgesVL edgesVC, .int .i64 nodeV, .int .i64 edgeIDV, .slice marksVA marksVL marksVC, .int .i64 lastV], Ck.sl eI 3 nodesVA nodesVL nodesVC nodesV, Ck.sl e3 239 edgesVA edgesVL edgesVC edgesV]) h' [Ck.ob gB2 155 [.slice nodesVA2 nodesVL2 nodesVC2, .slice edgesVA2 edgesVL2 edgesVC2, .int .i64 nodeV2, .int .i64 edgeIDV2, .slice marksVA marksVL marksVC, .int .i64 lastV2], Ck.sl eI 3 nodesVA2 nodesVL2 nodesVC2 nodesV1, Ck.sl e3 239 edgesVA2 edgesVL2 edgesVC2 edgesV1] ∧ v = .tuple #[.int .i64 raV, .int .i64 rbV] ∧ R nodesV1 edgesV1 nodeV2 edgeIDV2 lastV2 raV rbV
theorem Ok187v.mono {nodesV edgesV nodeV edgeIDV lastV u v} {R R' : List Int → List (Int × Int × Int) → Int → Int → Int → Int → Int → Prop} (H : Ok187v nodesV edgesV nodeV edgeIDV lastV u v R) (kz : ∀ nodesV1 edgesV1 nodeV2 edgeIDV2 lastV2 raV rbV, R nodesV1 edgesV1 nodeV2 edgeIDV2 lastV2 raV rbV → R' nodesV1 edgesV1 nodeV2 edgeIDV2 lastV2 raV rbV) : Ok187v nodesV edgesV nodeV edgeIDV lastV u v R' :=
  fun h gB2 nodesVA nodesVL nodesVC edgesVA edgesVL edgesVC marksVA marksVL marksVC hp => (H h gB2 nodesVA nodesVL nodesVC edgesVA edgesVL edgesVC marksVA marksVL marksVC hp).mono fun _ _ ⟨nodesVA2, nodesVL2, nodesVC2, nodesV1, edgesVA2, edgesVL2, edgesVC2, edgesV1, nodeV2, edgeIDV2, lastV2, raV, rbV, P, e, q⟩ => ⟨nodesVA2, nodesVL2, nodesVC2, nodesV1, edgesVA2, edgesVL2, edgesVC2, edgesV1, nodeV2, edgeIDV2, lastV2, raV, rbV, P, e, kz _ _ _ _ _ _ _ q⟩
def T187v (nodesV : List Int) (edgesV : List (Int × Int × Int)) (nodeV : Int) (edgeIDV : Int) (lastV : Int) (u : Int) (v : Int) (R : List Int → List (Int × Int × Int) → Int → Int → Int → Int → Int → Prop) : Prop :=
  Ok219v nodesV edgesV nodeV edgeIDV lastV u (fun r =>
  cnd (decide (r < (0 : Int)))
    (R nodesV edgesV nodeV edgeIDV lastV 0 2)
    (Ok219v nodesV edgesV nodeV edgeIDV lastV v (fun r2 =>
    cnd (decide (r2 < (0 : Int)))
      (R nodesV edgesV nodeV edgeIDV lastV 0 2)
      (cnd (((edgesV.length : Nat) : Int) == (3072 : Int))
        (R nodesV edgesV nodeV edgeIDV lastV 0 3)
        ((edgesV.length + 1) < 1000000000000 ∧ R nodesV (edgesV ++ [((IntKind.i64.wrap (edgeIDV + (1 : Int))), u, v)]) nodeV (IntKind.i64.wrap (edgeIDV + (1 : Int))) lastV (IntKind.i64.wrap (edgeIDV + (1 : Int))) 0)))))
theorem ok187v {nodesV edgesV nodeV edgeIDV lastV u v} {R : List Int → List (Int × Int × Int) → Int → Int → Int → Int → Int → Prop} (T : T187v nodesV edgesV nodeV edgeIDV lastV u v R) : Ok187v nodesV edgesV nodeV edgeIDV lastV u v R := by
  intro h gB2 nodesVA nodesVL nodesVC edgesVA edgesVL edgesVC marksVA marksVL marksVC H
  have Y : Sy h (owns [Ck.ob gB2 155 [.slice nodesVA nodesVL nodesVC, .slice edgesVA edgesVL edgesVC, .int .i64 nodeV, .int .i64 edgeIDV, .slice marksVA marksVL marksVC, .int .i64 lastV], Ck.sl eI 3 nodesVA nodesVL nodesVC nodesV, Ck.sl e3 239 edgesVA edgesVL edgesVC edgesV]) h _ := Sy.startM H rfl
  obtain rfl := Y.lenS 1 rfl
  obtain rfl := Y.lenS 2 rfl
  apply calls187
  unfold S187
  unfold T187v at T
  refine callX_sy (T _ _ _ _ _ _ _ _ _ _ _ _ ((((Y.turn 0 rfl To.obvob).turn 1 rfl To.slvw).turn 2 rfl To.slvw).pick [0, 1, 2] rfl).hp) (fun _ _ ⟨_, p, _⟩ => p.fr) alln ?_
  rintro v2 hv ⟨r, PP, rfl, T⟩
  have Y : Sy _ _ hv [_, _, _] := Y.gr PP.fr
  clear PP
  refine ⟨r, rfl, ?_⟩
  refine cnd_imp T (fun T => ?_) (fun T => ?_)
  · exact ⟨_, _, _, _, _, _, _, _, _, _, _, _, _, Y.pick [0, 1, 2] rfl, rfl, T⟩
  · refine callX_sy (T _ _ _ _ _ _ _ _ _ _ _ _ ((((Y.turn 0 rfl To.obvob).turn 1 rfl To.slvw).turn 2 rfl To.slvw).pick [0, 1, 2] rfl).hp) (fun _ _ ⟨_, p, _⟩ => p.fr) alln ?_
    rintro v3 hv2 ⟨r2, PP, rfl, T⟩
    have Y : Sy _ _ hv2 [_, _, _] := Y.gr PP.fr
    clear PP
    refine ⟨r2, rfl, ?_⟩
    refine cnd_imp T (fun T => ?_) (fun T => ?_)
    · exact ⟨_, _, _, _, _, _, _, _, _, _, _, _, _, Y.pick [0, 1, 2] rfl, rfl, T⟩
    · refine ⟨gB2, 0, rfl, ?_⟩
      refine ⟨_, _, _, Y.cellO 0 rfl 1 rfl, ?_⟩
      refine cnd_imp T (fun T => ?_) (fun T => ?_)
      · exact ⟨_, _, _, _, _, _, _, _, _, _, _, _, _, Y.pick [0, 1, 2] rfl, rfl, T⟩
      · refine ⟨gB2, 0, rfl, ?_⟩
        refine ⟨_, Y.cellO 0 rfl 3 rfl, ?_⟩
        refine ⟨gB2, 0, rfl, ?_⟩
        refine ⟨⟨_, Y.cellO 0 rfl 3 rfl⟩, Y.freeO 0 rfl _, ?_⟩
        intro hv3
        have Y : Sy _ _ hv3 [_, _, _] := (Y.stO 0 rfl 3 _)
        clear_value hv3
        have Y0 := Y
        obtain ⟨Mx, hMx⟩ := Y.mt [2] []
        refine ⟨Mx, ?_⟩
        subst hMx
        refine ⟨alln, ?_⟩
        have F : Fr _ hv3 hv3 := Y0.frM [2] []
        refine ⟨gB2, 0, rfl, ?_⟩
        refine ⟨(Y0.nMo 0 [2] [] rfl rfl (by simp [Ck.ob])), ?_⟩
        refine ⟨_, _, _, Y0.cellO 0 rfl 1 rfl, ?_⟩
        refine ⟨gB2, 0, rfl, ?_⟩
        refine ⟨(Y0.nMo 0 [2] [] rfl rfl (by simp [Ck.ob])), ?_⟩
        refine ⟨_, Y0.cellO 0 rfl 3 rfl, ?_⟩
        intro hv4
        have Y : Sy _ _ hv4 [_, _, _, _] := Y.junk _
        have F : Fr _ _ hv4 := F.pushr _
        have fshv4 := F.size
        clear_value hv4
        refine ⟨F, ?_⟩
        obtain ⟨q, T⟩ := T
        refine ⟨_, Y.ownS 2 rfl, (allc (Y.nJ 2 3 rfl rfl rfl) alln), by first | exact appB q (by decide) | omega, by first | exact appM q | (simp [maxLen]; omega), ?_⟩
        intro sA sC hv5 ow fA gA gB
        have Y : Sy _ _ hv5 [_, _, _, _] := Y.appS 2 rfl ([((IntKind.i64.wrap (edgeIDV + (1 : Int))), u, v)] : List (Int × Int × Int)) ow fA gA rfl rfl
        have ns := F.appIn (Y0.inMo 2 [2] [] rfl rfl) gA fshv4
        have F : Fr _ _ hv5 := F.comp fA (Y0.inMo 2 [2] [] rfl rfl)
        have fshv5 := F.size
        refine ⟨F, ?_⟩
        refine ⟨gB2, 0, rfl, ?_⟩
        refine ⟨(Y.neJ 0 3 rfl rfl rfl (by simp [Ck.ob])), ⟨_, Y.cellO 0 rfl 1 rfl⟩, Y.freeO 0 rfl _, ?_⟩
        intro hv6
        have Y : Sy _ _ hv6 [_, _, _, _] := (Y.stO 0 rfl 1 _)
        clear_value hv6
        refine ⟨gB2, 0, rfl, ?_⟩
        refine ⟨_, Y.cellO 0 rfl 3 rfl, ?_⟩
        exact ⟨_, _, _, _, _, _, _, _, _, _, _, _, _, Y.pick [0, 1, 2] rfl, rfl, T⟩
/-- (*tracery/traceryref4.Graph).DropNode -/
def S188 (gP : Option Addr) (v : Int) (h : Heap) (R : Value → Heap → Prop) : Prop :=
  callX Try.prog 219 #[.pointer gP, .int .i64 v] h [] fun v2 hv =>
  ∃ r : Int, v2 = .int .i64 r ∧
  cnd (decide (r < (0 : Int)))
    (R (.tuple #[.int .i64 0, .int .i64 2]) hv)
    (∃ b o, gP = some ⟨b, o, none⟩ ∧ ∃ (xA : Option Addr) (xL xC : Nat), hcell hv b o = some (.slice xA xL xC) ∧ ∃ (xA2 : Option Addr) (xL2 xC2 : Nat), hcell hv b (o + 1) = some (.slice xA2 xL2 xC2) ∧ ∃ x : Int, hcell hv b ((o + 1) + 1) = some (.int .i64 x) ∧ ∃ x2 : Int, hcell hv b (((o + 1) + 1) + 1) = some (.int .i64 x2) ∧ callX Try.prog 220 #[.agg #[.slice xA xL xC, .slice xA2 xL2 xC2, .int .i64 x, .int .i64 x2]] hv [] fun v3 hv2 =>
    ∃ (rA : Option Addr) (rL rC : Nat), ∃ (rA2 : Option Addr) (rL2 rC2 : Nat), ∃ r2 : Int, ∃ r3 : Int, v3 = .agg #[.slice rA rL rC, .slice rA2 rL2 rC2, .int .i64 r2, .int .i64 r3] ∧
    let hv3 : Heap := hv2.push (.cells #[.slice none 0 0, .slice none 0 0, .int .i64 0, .int .i64 0] 152)
    let hv4 : Heap := hset (hset (hset (hset hv3 hv2.size 0 (.slice rA rL rC)) hv2.size (0 + 1) (.slice rA2 rL2 rC2)) hv2.size ((0 + 1) + 1) (.int .i64 r2)) hv2.size (((0 + 1) + 1) + 1) (.int .i64 r3)
    ∃ Mv : List Nat, (∀ b ∈ ([hv2.size] : List Nat), b ∉ Mv) ∧
    0 ≤ r ∧ r ≤ (rC : Nat) ∧ 0 ≤ (IntKind.i64.wrap (r + (1 : Int))) ∧ (IntKind.i64.wrap (r + (1 : Int))) ≤ (rL : Nat) ∧ ∃ xs : List Value, Reads hv4 1 (if rC = 0 then rA else Option.map (fun addr => Addr.add addr (0 * 1)) rA) ((Int.toNat r) - 0) xs ∧ ((if rC = 0 then rA else Option.map (fun addr => Addr.add addr (0 * 1)) rA) = none → (rC - 0) = 0) ∧ (∀ v ∈ xs, v.oneCell' = true) ∧ ∃ old, Ownd hv4 3 1 none 0 0 old ∧ (∀ b ∈ ([hv2.size] : List Nat), b ∉ blkOf none) ∧ (0 + ((Int.toNat r) - 0)) * 8 ≤ 140737488355328 ∧ (0 + ((Int.toNat r) - 0)) ≤ maxLen ∧
    ∀ sA sC hv5, Ownd hv5 3 1 sA (0 + ((Int.toNat r) - 0)) sC (old ++ xs) → Fr (blkOf none) hv4 hv5 → ((sA = none ∧ sC = 0) ∨ ∃ g, sA = some ⟨g, 0, none⟩ ∧ hv4.size ≤ g) → (0 < (0 + ((Int.toNat r) - 0)) → Fr [] hv4 hv5) →
    Fr Mv hv4 hv5 ∧
    ∃ xs2 : List Value, Reads hv5 1 (if rC = (Int.toNat (IntKind.i64.wrap (r + (1 : Int)))) then rA else Option.map (fun addr => Addr.add addr ((Int.toNat (IntKind.i64.wrap (r + (1 : Int)))) * 1)) rA) (rL - (Int.toNat (IntKind.i64.wrap (r + (1 : Int))))) xs2 ∧ ((if rC = (Int.toNat (IntKind.i64.wrap (r + (1 : Int)))) then rA else Option.map (fun addr => Addr.add addr ((Int.toNat (IntKind.i64.wrap (r + (1 : Int)))) * 1)) rA) = none → (rC - (Int.toNat (IntKind.i64.wrap (r + (1 : Int))))) = 0) ∧ (∀ v ∈ xs2, v.oneCell' = true) ∧ ∃ old2, Ownd hv5 3 1 sA (0 + ((Int.toNat r) - 0)) sC old2 ∧ (∀ b ∈ ([hv2.size] : List Nat), b ∉ blkOf sA) ∧ ((0 + ((Int.toNat r) - 0)) + (rL - (Int.toNat (IntKind.i64.wrap (r + (1 : Int)))))) * 8 ≤ 140737488355328 ∧ ((0 + ((Int.toNat r) - 0)) + (rL - (Int.toNat (IntKind.i64.wrap (r + (1 : Int)))))) ≤ maxLen ∧
    ∀ sA2 sC2 hv6, Ownd hv6 3 1 sA2 ((0 + ((Int.toNat r) - 0)) + (rL - (Int.toNat (IntKind.i64.wrap (r + (1 : Int)))))) sC2 (old2 ++ xs2) → Fr (blkOf sA) hv5 hv6 → ((sA2 = sA ∧ sC2 = sC) ∨ ∃ g, sA2 = some ⟨g, 0, none⟩ ∧ hv5.size ≤ g) → (sC < ((0 + ((Int.toNat r) - 0)) + (rL - (Int.toNat (IntKind.i64.wrap (r + (1 : Int)))))) → Fr [] hv5 hv6) →
    let hv7 : Heap := hset hv6 hv2.size 0 (.slice sA2 ((0 + ((Int.toNat r) - 0)) + (rL - (Int.toNat (IntKind.i64.wrap (r + (1 : Int)))))) sC2)
    let hv8 : Heap := hset hv7 hv2.size 1 (.slice none 0 0)
    ∃ (Iv : List Value → Heap → Prop) (m : List Value → Heap → Nat), Iv [.int .i64 0, .slice sA2 ((0 + ((Int.toNat r) - 0)) + (rL - (Int.toNat (IntKind.i64.wrap (r + (1 : Int)))))) sC2, .slice none 0 0, .int .i64 r2, .int .i64 r3] hv8 ∧ -- loop 0: ['k']
    ∀ k : Int, ∀ (c0A : Option Addr) (c0L c0C : Nat), ∀ (c1A : Option Addr) (c1L c1C : Nat), ∀ c2 : Int, ∀ c3 : Int, ∀ hv9, Iv [.int .i64 k, .slice c0A c0L c0C, .slice c1A c1L c1C, .int .i64 c2, .int .i64 c3] hv9 →
    ∃ b2 o2, gP = some ⟨b2, o2, none⟩ ∧ ∃ (xA3 : Option Addr) (xL3 xC3 : Nat), hcell hv9 b2 (o2 + 1) = some (.slice xA3 xL3 xC3) ∧ cnd (decide (k < ((xL3 : Nat) : Int)))
      (let K := fun (cA : Option Addr) (cL cC : Nat) (cA2 : Option Addr) (cL2 cC2 : Nat) (c : Int) (c4 : Int) (hv14 : Heap) =>
        (Iv [.int .i64 (IntKind.i64.wrap (k + (1 : Int))), .slice cA cL cC, .slice cA2 cL2 cC2, .int .i64 c, .int .i64 c4] hv14 ∧ m [.int .i64 (IntKind.i64.wrap (k + (1 : Int))), .slice cA cL cC, .slice cA2 cL2 cC2, .int .i64 c, .int .i64 c4] hv14 < m [.int .i64 k, .slice c0A c0L c0C, .slice c1A c1L c1C, .int .i64 c2, .int .i64 c3] hv9)
      ∃ b3 o3, gP = some ⟨b3, o3, none⟩ ∧ ∃ (xA4 : Option Addr) (xL4 xC4 : Nat), hcell hv9 b3 (o3 + 1) = some (.slice xA4 xL4 xC4) ∧ ∃ b4 o4, xA4 = some ⟨b4, o4, none⟩ ∧ 0 ≤ k ∧ k < (xL4 : Nat) ∧ ∃ x3 : Int, hcell hv9 b4 ((o4 + (Int.toNat k) * 3) + 1) = some (.int .i64 x3) ∧ cnd (x3 != v)
        (∃ b5 o5, gP = some ⟨b5, o5, none⟩ ∧ ∃ (xA5 : Option Addr) (xL5 xC5 : Nat), hcell hv9 b5 (o5 + 1) = some (.slice xA5 xL5 xC5) ∧ ∃ b6 o6, xA5 = some ⟨b6, o6, none⟩ ∧ 0 ≤ k ∧ k < (xL5 : Nat) ∧ ∃ x4 : Int, hcell hv9 b6 ((o6 + (Int.toNat k) * 3) + 2) = some (.int .i64 x4) ∧ ∃ Jv : List Value → Heap → Prop, -- join 66 []
        ( cnd (x4 != v)
           (∃ b7 o7, gP = some ⟨b7, o7, none⟩ ∧ ∃ (xA6 : Option Addr) (xL6 xC6 : Nat), hcell hv9 b7 (o7 + 1) = some (.slice xA6 xL6 xC6) ∧ ∃ b8 o8, xA6 = some ⟨b8, o8, none⟩ ∧ 0 ≤ k ∧ k < (xL6 : Nat) ∧ ∃ x5 : Int, hcell hv9 b8 (o8 + (Int.toNat k) * 3) = some (.int .i64 x5) ∧ ∃ x6 : Int, hcell hv9 b8 ((o8 + (Int.toNat k) * 3) + 1) = some (.int .i64 x6) ∧ ∃ x7 : Int, hcell hv9 b8 (((o8 + (Int.toNat k) * 3) + 1) + 1) = some (.int .i64 x7) ∧ let hv10 : Heap := hv9.push (.cells #[.int .i64 x5, .int .i64 x6, .int .i64 x7] 239)
           Fr [] hv9 hv10 ∧
           ∃ old3, Ownd hv10 239 3 c1A c1L c1C old3 ∧ (∀ b ∈ ([hv9.size, hv2.size] : List Nat), b ∉ blkOf c1A) ∧ (c1L + 1) * 24 ≤ 140737488355328 ∧ (c1L + 1) ≤ maxLen ∧
           ∀ sA3 sC3 hv11, Ownd hv11 239 3 sA3 (c1L + 1) sC3 (old3 ++ [.int .i64 x5, .int .i64 x6, .int .i64 x7]) → Fr (blkOf c1A) hv10 hv11 → ((sA3 = c1A ∧ sC3 = c1C) ∨ ∃ g, sA3 = some ⟨g, 0, none⟩ ∧ hv10.size ≤ g) → (c1C < (c1L + 1) → Fr [] hv10 hv11) →
           let hv12 : Heap := hset hv11 hv2.size 1 (.slice sA3 (c1L + 1) sC3)
           Jv [.slice c0A c0L c0C, .slice sA3 (c1L + 1) sC3, .int .i64 c2, .int .i64 c3] hv12)
           (Jv [.slice c0A c0L c0C, .slice c1A c1L c1C, .int .i64 c2, .int .i64 c3] hv9)) ∧
        ∀ (c0A2 : Option Addr) (c0L2 c0C2 : Nat), ∀ (c1A2 : Option Addr) (c1L2 c1C2 : Nat), ∀ c2_2 : Int, ∀ c3_2 : Int, ∀ hv13, Jv [.slice c0A2 c0L2 c0C2, .slice c1A2 c1L2 c1C2, .int .i64 c2_2, .int .i64 c3_2] hv13 →
        K c0A2 c0L2 c0C2 c1A2 c1L2 c1C2 c2_2 c3_2 hv13)
        (K c0A c0L c0C c1A c1L c1C c2 c3 hv9))
      (∃ b9 o9, gP = some ⟨b9, o9, none⟩ ∧ ∃ (xA7 : Option Addr) (xL7 xC7 : Nat), hcell hv9 b9 (o9 + 1) = some (.slice xA7 xL7 xC7) ∧ ∃ b10 o10, gP = some ⟨b10, o10, none⟩ ∧ b10 ≠ hv2.size ∧ (∃ u, hcell hv9 b10 o10 = some u) ∧ hfree hv9 b10 o10 = true ∧ (∃ u, hcell hv9 b10 (o10 + 1) = some u) ∧ hfree hv9 b10 (o10 + 1) = true ∧ (∃ u, hcell hv9 b10 ((o10 + 1) + 1) = some u) ∧ hfree hv9 b10 ((o10 + 1) + 1) = true ∧ (∃ u, hcell hv9 b10 (((o10 + 1) + 1) + 1) = some u) ∧ hfree hv9 b10 (((o10 + 1) + 1) + 1) = true ∧ let hv15 : Heap := hset (hset (hset (hset hv9 b10 o10 (.slice c0A c0L c0C)) b10 (o10 + 1) (.slice c1A c1L c1C)) b10 ((o10 + 1) + 1) (.int .i64 c2)) b10 (((o10 + 1) + 1) + 1) (.int .i64 c3)
      R (.tuple #[.int .i64 (IntKind.i64.wrap (((xL7 : Nat) : Int) - ((c1L : Nat) : Int))), .int .i64 0]) hv15))
theorem calls188 {h : Heap} {R : Value → Heap → Prop} (gP : Option Addr) (v : Int) (H : S188 gP v h R) : CallsH Try.prog 188 #[.pointer gP, .int .i64 v] h R := by
  have e : S188 gP v h R = FX (envX [7, 77] 95) { loops := [(0, ⟨[0, 1, 7], [8], [], [7]⟩)], joins := [(66, ⟨[0, 1, 7, 8], [], [], [7]⟩)], blocks := [], draws := [(5, ⟨10, true⟩), (11, ⟨11, false⟩), (12, ⟨11, false⟩)] } Try.f188 (Try.f188.body.getD .skip) [.pointer gP, .int .i64 v] h R := by kernel_rfl
  exact calls_of_FX (envX_ok _ _) Try.func188 (by kernel_rfl) (by kernel_rfl) (by kernel_rfl) (e ▸ H)
/-- (*tracery/traceryref4.Graph).DropNode -/
def Ok188v (nodesV : List Int) (edgesV : List (Int × Int × Int)) (nodeV : Int) (edgeIDV : Int) (lastV : Int) (v : Int) (R : List Int → List (Int × Int × Int) → Int → Int → Int → Int → Int → Prop) : Prop :=
  ∀ (h : Heap) (gB2 : Nat) (nodesVA : Option Addr) (nodesVL nodesVC : Nat) (edgesVA : Option Addr) (edgesVL edgesVC : Nat) (marksVA : Option Addr) (marksVL marksVC : Nat), Hp h [Ck.ob gB2 155 [.slice nodesVA nodesVL nodesVC, .slice edgesVA edgesVL edgesVC, .int .i64 nodeV, .int .i64 edgeIDV, .slice marksVA marksVL marksVC, .int .i64 lastV], Ck.sl eI 3 nodesVA nodesVL nodesVC nodesV, Ck.sl e3 239 edgesVA edgesVL edgesVC edgesV] → CallsH Try.prog 188 #[.pointer (some ⟨gB2, 0, none⟩), .int .i64 v] h fun v h' => ∃ (nodesVA2 : Option Addr) (nodesVL2 nodesVC2 : Nat) (nodesV1 : List Int) (edgesVA2 : Option Addr) (edgesVL2 edgesVC2 : Nat) (edgesV1 : List (Int × Int × Int)) (nodeV2 : Int) (edgeIDV2 : Int) (lastV2 : Int) (raV : Int) (rbV : Int), Sy h (owns [Ck.ob gB2 155 [.slice nodesVA nodesVL nodesVC, .slice edgesVA edgesVL edgesVC, .int .i64 nodeV, .int .i64 edgeIDV, .slice marksVA marksVL marksVC, .int .i64 lastV], Ck.sl eI 3 nodesVA nodesVL nodesVC nodesV, Ck.sl e3 239 edgesVA edgesVL edgesVC edgesV]) h' [Ck.ob gB2 155 [.slice nodesVA2 nodesVL2 nodesVC2, .slice edgesVA2 edgesVL2 edgesVC2, .int .i64 nodeV2, .int .i64 edgeIDV2, .slice marksVA marksVL marksVC, .int .i64 lastV2], Ck.sl eI 3 nodesVA2 nodesVL2 nodesVC2 nodesV1, Ck.sl e3 239 edgesVA2 edgesVL2 edgesVC2 edgesV1] ∧ v = .tuple #[.int .i64 raV, .int .i64 rbV] ∧ R nodesV1 edgesV1 nodeV2 edgeIDV2 lastV2 raV rbV
theorem Ok188v.mono {nodesV edgesV nodeV edgeIDV lastV v} {R R' : List Int → List (Int × Int × Int) → Int → Int → Int → Int → Int → Prop} (H : Ok188v nodesV edgesV nodeV edgeIDV lastV v R) (kz : ∀ nodesV1 edgesV1 nodeV2 edgeIDV2 lastV2 raV rbV, R nodesV1 edgesV1 nodeV2 edgeIDV2 lastV2 raV rbV → R' nodesV1 edgesV1 nodeV2 edgeIDV2 lastV2 raV rbV) : Ok188v nodesV edgesV nodeV edgeIDV lastV v R' :=
  fun h gB2 nodesVA nodesVL nodesVC edgesVA edgesVL edgesVC marksVA marksVL marksVC hp => (H h gB2 nodesVA nodesVL nodesVC edgesVA edgesVL edgesVC marksVA marksVL marksVC hp).mono fun _ _ ⟨nodesVA2, nodesVL2, nodesVC2, nodesV1, edgesVA2, edgesVL2, edgesVC2, edgesV1, nodeV2, edgeIDV2, lastV2, raV, rbV, P, e, q⟩ => ⟨nodesVA2, nodesVL2, nodesVC2, nodesV1, edgesVA2, edgesVL2, edgesVC2, edgesV1, nodeV2, edgeIDV2, lastV2, raV, rbV, P, e, kz _ _ _ _ _ _ _ q⟩
def T188v (nodesV : List Int) (edgesV : List (Int × Int × Int)) (nodeV : Int) (edgeIDV : Int) (lastV : Int) (v : Int) (R : List Int → List (Int × Int × Int) → Int → Int → Int → Int → Int → Prop) : Prop :=
  Ok219v nodesV edgesV nodeV edgeIDV lastV v (fun r =>
  cnd (decide (r < (0 : Int)))
    (R nodesV edgesV nodeV edgeIDV lastV 0 2)
    (Ok220 nodesV edgesV nodeV edgeIDV (fun r_2 r_3 r2 r3 =>
    0 ≤ r ∧ r ≤ ((r_2.length : Nat) : Int) ∧ 0 ≤ (IntKind.i64.wrap (r + (1 : Int))) ∧ (IntKind.i64.wrap (r + (1 : Int))) ≤ ((r_2.length : Nat) : Int) ∧ (0 + ((Int.toNat r) - 0)) < 1000000000000 ∧ ((0 + ((Int.toNat r) - 0)) + (r_2.length - (Int.toNat (IntKind.i64.wrap (r + (1 : Int)))))) < 1000000000000 ∧ ∃ (Iv : Int → List Int → List (Int × Int × Int) → Int → Int → Prop) (m : Int → List Int → List (Int × Int × Int) → Int → Int → Nat), Iv 0 ((([] : List Int) ++ (r_2.take (Int.toNat r))) ++ (r_2.drop (Int.toNat (IntKind.i64.wrap (r + (1 : Int)))))) ([] : List (Int × Int × Int)) r2 r3 ∧
    ∀ k : Int, ∀ c0 : List Int, ∀ c1 : List (Int × Int × Int), ∀ c2 : Int, ∀ c3 : Int, Iv k c0 c1 c2 c3 →
    cnd (decide (k < ((edgesV.length : Nat) : Int)))
      (∃ Jv_2 : List Int → List (Int × Int × Int) → Int → Int → Prop,
      ( 0 ≤ k ∧ k < ((edgesV.length : Nat) : Int) ∧ ∀ x_2 : (Int × Int × Int), edgesV[(Int.toNat k)]? = some x_2 → cnd (x_2.2.1 != v)
         (∃ Jv : List Int → List (Int × Int × Int) → Int → Int → Prop,
         ( cnd (x_2.2.2 != v)
            (0 ≤ k ∧ k < ((edgesV.length : Nat) : Int) ∧ ∀ x_3 : (Int × Int × Int), edgesV[(Int.toNat k)]? = some x_3 → (c1.length + 1) < 1000000000000 ∧ Jv c0 (c1 ++ [(x_3.1, x_3.2.1, x_3.2.2)]) c2 c3)
            (Jv c0 c1 c2 c3)) ∧
         ∀ c0_2 : List Int, ∀ c1_2 : List (Int × Int × Int), ∀ c2_2 : Int, ∀ c3_2 : Int, Jv c0_2 c1_2 c2_2 c3_2 →
         Jv_2 c0_2 c1_2 c2_2 c3_2)
         (Jv_2 c0 c1 c2 c3)) ∧
      ∀ c_2 : List Int, ∀ c_3 : List (Int × Int × Int), ∀ c : Int, ∀ c4 : Int, Jv_2 c_2 c_3 c c4 →
      Iv (IntKind.i64.wrap (k + (1 : Int))) c_2 c_3 c c4 ∧ m (IntKind.i64.wrap (k + (1 : Int))) c_2 c_3 c c4 < m k c0 c1 c2 c3)
      (R c0 c1 c2 c3 lastV (IntKind.i64.wrap (((edgesV.length : Nat) : Int) - ((c1.length : Nat) : Int))) 0))))
theorem ok188v {nodesV edgesV nodeV edgeIDV lastV v} {R : List Int → List (Int × Int × Int) → Int → Int → Int → Int → Int → Prop} (T : T188v nodesV edgesV nodeV edgeIDV lastV v R) : Ok188v nodesV edgesV nodeV edgeIDV lastV v R := by
  intro h gB2 nodesVA nodesVL nodesVC edgesVA edgesVL edgesVC marksVA marksVL marksVC H
  have Y : Sy h (owns [Ck.ob gB2 155 [.slice nodesVA nodesVL nodesVC, .slice edgesVA edgesVL edgesVC, .int .i64 nodeV, .int .i64 edgeIDV, .slice marksVA marksVL marksVC, .int .i64 lastV], Ck.sl eI 3 nodesVA nodesVL nodesVC nodesV, Ck.sl e3 239 edgesVA edgesVL edgesVC edgesV]) h _ := Sy.startM H rfl
  obtain rfl := Y.lenS 1 rfl
  obtain rfl := Y.lenS 2 rfl
  apply calls188
  unfold S188
  unfold T188v at T
  refine callX_sy (T _ _ _ _ _ _ _ _ _ _ _ _ ((((Y.turn 0 rfl To.obvob).turn 1 rfl To.slvw).turn 2 rfl To.slvw).pick [0, 1, 2] rfl).hp) (fun _ _ ⟨_, p, _⟩ => p.fr) alln ?_
  rintro v2 hv ⟨r, PP, rfl, T⟩
  have Y : Sy _ _ hv [_, _, _] := Y.gr PP.fr
  clear PP
  refine ⟨r, rfl, ?_⟩
  refine cnd_imp T (fun T => ?_) (fun T => ?_)
  · exact ⟨_, _, _, _, _, _, _, _, _, _, _, _, _, Y.pick [0, 1, 2] rfl, rfl, T⟩
  · refine ⟨gB2, 0, rfl, ?_⟩
    refine ⟨_, _, _, Y.cellO 0 rfl 0 rfl, ?_⟩
    refine ⟨_, _, _, Y.cellO 0 rfl 1 rfl, ?_⟩
    refine ⟨_, Y.cellO 0 rfl 2 rfl, ?_⟩
    refine ⟨_, Y.cellO 0 rfl 3 rfl, ?_⟩
    refine callX_sy (T _ _ _ _ _ _ _ (((Y.turn 1 rfl To.slvw).turn 2 rfl To.slvw).pick [1, 2] rfl).hp) (fun _ _ ⟨_, _, _, _, _, _, _, _, _, _, p, _⟩ => p.fr) alln ?_
    rintro v3 hv2 ⟨rA, rL, rC, r_2, rA2, rL2, rC2, r_3, r2, r3, PP, rfl, T⟩
    have Y : Sy _ _ hv2 [_, _, _, _, _] := Y.callV PP ⟨rfl, ⟨rfl, trivial⟩⟩
    clear PP
    obtain rfl := Y.lenS 3 rfl
    obtain rfl := Y.lenS 4 rfl
    refine ⟨_, _, _, _, _, _, r2, r3, rfl, ?_⟩
    intro hv3
    have Y : Sy _ _ hv3 [_, _, _, _, _, _] := Y.junk _
    clear_value hv3
    intro hv4
    have Y : Sy _ _ hv4 [_, _, _, _, _, _] := ((((Y.stJ 5 rfl _ _).stJ 5 rfl _ _).stJ 5 rfl _ _).stJ 5 rfl _ _)
    clear_value hv4
    have Y0 := Y
    obtain ⟨Mx, hMx⟩ := Y.mt [] []
    refine ⟨Mx, ?_⟩
    subst hMx
    refine ⟨(allc (Y0.nMJ 5 [] [] rfl rfl) alln), ?_⟩
    have F : Fr _ hv4 hv4 := Y0.frM [] []
    obtain ⟨q, q_2, T⟩ := T
    refine ⟨q, (by have := (Y.capS 3 rfl).1; omega), ?_⟩
    try rw [slice0]
    obtain ⟨q_3, q_4, T⟩ := T
    refine ⟨q_3, q_4, ?_⟩
    refine ⟨_, (Y.readsS 3 rfl).takeR (Int.toNat r) (by omega), (Y.capS 3 rfl).2.2, En.l_one _, ?_⟩
    have Y : Sy _ _ _ [_, _, _, _, _, _, _] := Y.nilS eI 3
    obtain ⟨q_5, T⟩ := T
    refine ⟨_, Y.ownS 6 rfl, (allc (Y.nJ 6 5 rfl rfl rfl) alln), by first | exact appB q_5 (by decide) | omega, by first | exact appM q_5 | (simp [maxLen]; omega), ?_⟩
    intro sA sC hv5 ow fA gA gB
    have Y : Sy _ _ hv5 [_, _, _, _, _, _, _] := Y.appS 6 rfl (r_2.take (Int.toNat r)) ow fA gA rfl (by simp <;> omega)
    have ns := F.appIn nil_in gA (Nat.le_refl _)
    have F : Fr _ _ hv5 := F.comp fA nil_in
    have fshv5 := F.size
    refine ⟨F, ?_⟩
    refine ⟨_, ((Y.readsS 3 rfl)).dropR (Int.toNat (IntKind.i64.wrap (r + (1 : Int)))) (by omega) (Y.capS 3 rfl).1 (Y.capS 3 rfl).2.2 (by omega), dropNc (Y.capS 3 rfl).2.2, En.l_one _, ?_⟩
    obtain ⟨q_6, T⟩ := T
    refine ⟨_, Y.ownS 6 rfl, (allc (Y.nJ 6 5 rfl rfl rfl) alln), by first | exact appB q_6 (by decide) | omega, by first | exact appM q_6 | (simp [maxLen]; omega), ?_⟩
    intro sA2 sC2 hv6 ow fA gA gB
    have Y : Sy _ _ hv6 [_, _, _, _, _, _, _] := Y.appS 6 rfl (r_2.drop (Int.toNat (IntKind.i64.wrap (r + (1 : Int))))) ow fA gA rfl (by simp <;> omega)
    intro hv7
    have Y : Sy _ _ hv7 [_, _, _, _, _, _, _] := (Y.stJ 5 rfl _ _)
    clear_value hv7
    intro hv8
    have Y : Sy _ _ hv8 [_, _, _, _, _, _, _] := (Y.stJ 5 rfl _ _)
    clear_value hv8
    have Y : Sy _ _ _ [_, _, _, _, _, _, _, _] := Y.nilS e3 239
    obtain ⟨Iv, m, T0, T1⟩ := T
    obtain ⟨B, hB, YB⟩ := Y.cut [6, 7] [0, 1, 2, 3, 4, 5] rfl
    obtain ⟨JJ, hJJ⟩ : ∃ JJ : Nat → List Value → Heap → Prop, JJ = (fun k_2 lz h' => ∃ (k : Int) (c0A : Option Addr) (c0L c0C : Nat) (c0 : List Int) (c1A : Option Addr) (c1L c1C : Nat) (c1 : List (Int × Int × Int)) (c2 : Int) (c3 : Int), lz = [.int .i64 k, .slice c0A c0L c0C, .slice c1A c1L c1C, .int .i64 c2, .int .i64 c3] ∧ Sy h (owns [Ck.ob gB2 155 [.slice nodesVA nodesV.length nodesVC, .slice edgesVA edgesV.length edgesVC, .int .i64 nodeV, .int .i64 edgeIDV, .slice marksVA marksVL marksVC, .int .i64 lastV], Ck.sl eI 3 nodesVA nodesV.length nodesVC nodesV, Ck.sl e3 239 edgesVA edgesV.length edgesVC edgesV]) h' ([Ck.sl eI 3 c0A c0L c0C c0, Ck.sl e3 239 c1A c1L c1C c1] ++ B) ∧ Iv k c0 c1 c2 c3 ∧ m k c0 c1 c2 c3 = k_2) := ⟨_, rfl⟩
    refine ⟨fun lz h' => ∃ k_2, JJ k_2 lz h', Lm JJ, ?_, ?_⟩
    · subst hJJ hB
      exact ⟨_, _, _, _, _, _, _, _, _, _, _, _, rfl, YB, T0, rfl⟩
    · clear YB T0 Y
      intro k c0A c0L c0C c1A c1L c1C c2 c3 hv9 hI
      obtain ⟨k_2, hI, hm⟩ := loopIn hI
      subst hJJ hB
      obtain ⟨k, c0A, c0L, c0C, c0, c1A, c1L, c1C, c1, c2, c3, e, Y, T, rfl⟩ := hI
      cases e
      obtain rfl := Y.lenS 0 rfl
      obtain rfl := Y.lenS 1 rfl
      replace T := T1 k c0 c1 c2 c3 T
      have Y : Sy _ _ _ [_, _, _, _, _, _, _, _] := Y
      refine ⟨gB2, 0, rfl, ?_⟩
      refine ⟨_, _, _, Y.cellO 2 rfl 1 rfl, ?_⟩
      refine cnd_imp T (fun T => ?_) (fun T => ?_)
      · obtain ⟨Jv_2, T0, T1⟩ := T
        obtain ⟨B_2, hB_2, _⟩ := Y.cut [] [2, 3, 4, 5, 6, 7] rfl
        intro K
        have hK : ∀ (cA : Option Addr) (cL cC : Nat) (cA2 : Option Addr) (cL2 cC2 : Nat) (c : Int) (c4 : Int) (hv14 : Heap), (∃ (c_2 : List Int) (c_3 : List (Int × Int × Int)), Sy h (owns [Ck.ob gB2 155 [.slice nodesVA nodesV.length nodesVC, .slice edgesVA edgesV.length edgesVC, .int .i64 nodeV, .int .i64 edgeIDV, .slice marksVA marksVL marksVC, .int .i64 lastV], Ck.sl eI 3 nodesVA nodesV.length nodesVC nodesV, Ck.sl e3 239 edgesVA edgesV.length edgesVC edgesV]) hv14 ([Ck.sl eI 3 cA cL cC c_2, Ck.sl e3 239 cA2 cL2 cC2 c_3] ++ B_2) ∧ Jv_2 c_2 c_3 c c4) → K cA cL cC cA2 cL2 cC2 c c4 hv14 := by
          subst hB_2
          clear T0 Y
          rintro cA cL cC cA2 cL2 cC2 c c4 hv14 ⟨c_2, c_3, Y, T⟩
          obtain rfl := Y.lenS 0 rfl
          obtain rfl := Y.lenS 1 rfl
          replace T := T1 c_2 c_3 c c4 T
          have Y : Sy _ _ _ [_, _, _, _, _, _, _, _] := Y
          unfold K
          exact loopBack hm ⟨_, _, _, _, _, _, _, _, _, _, _, rfl, Y.pick [0, 1, 2, 3, 4, 5, 6, 7] rfl, T.1, rfl⟩ T.2
        subst hB_2
        replace T := T0
        clear T0 T1
        refine ⟨gB2, 0, rfl, ?_⟩
        refine ⟨_, _, _, Y.cellO 2 rfl 1 rfl, ?_⟩
        obtain ⟨q_7, q_8, T⟩ := T
        obtain ⟨b_2, hb, ho, x_2, hx⟩ := Y.atS 4 rfl q_7 q_8
        refine ⟨b_2, 0, hb, q_7, q_8, ?_⟩
        replace T := T x_2 hx
        refine ⟨_, Y.cellS 4 rfl hb (t := 1) hx rfl, ?_⟩
        refine cnd_imp T (fun T => ?_) (fun T => ?_)
        · refine ⟨gB2, 0, rfl, ?_⟩
          refine ⟨_, _, _, Y.cellO 2 rfl 1 rfl, ?_⟩
          refine ⟨b_2, 0, hb, q_7, q_8, ?_⟩
          refine ⟨_, Y.cellS 4 rfl hb (t := 2) hx rfl, ?_⟩
          obtain ⟨Jv, T0, T1⟩ := T
          obtain ⟨B_3, hB_3, _⟩ := Y.cut [] [2, 3, 4, 5, 6, 7] rfl
          refine ⟨fun lz h' => ∃ (c0A2 : Option Addr) (c0L2 c0C2 : Nat) (c0_2 : List Int) (c1A2 : Option Addr) (c1L2 c1C2 : Nat) (c1_2 : List (Int × Int × Int)) (c2_2 : Int) (c3_2 : Int), lz = [.slice c0A2 c0L2 c0C2, .slice c1A2 c1L2 c1C2, .int .i64 c2_2, .int .i64 c3_2] ∧ Sy h (owns [Ck.ob gB2 155 [.slice nodesVA nodesV.length nodesVC, .slice edgesVA edgesV.length edgesVC, .int .i64 nodeV, .int .i64 edgeIDV, .slice marksVA marksVL marksVC, .int .i64 lastV], Ck.sl eI 3 nodesVA nodesV.length nodesVC nodesV, Ck.sl e3 239 edgesVA edgesV.length edgesVC edgesV]) h' ([Ck.sl eI 3 c0A2 c0L2 c0C2 c0_2, Ck.sl e3 239 c1A2 c1L2 c1C2 c1_2] ++ B_3) ∧ Jv c0_2 c1_2 c2_2 c3_2, ?_, ?_⟩
          · subst hB_3
            replace T := T0
            clear T0 T1
            refine cnd_imp T (fun T => ?_) (fun T => ?_)
            · have Y0 := Y
              have F : Fr [] hv9 hv9 := Fr.refl _ _
              refine ⟨gB2, 0, rfl, ?_⟩
              refine ⟨_, _, _, Y0.cellO 2 rfl 1 rfl, ?_⟩
              obtain ⟨q_9, q_10, T⟩ := T
              obtain ⟨b_3, hb_2, ho_2, x_3, hx_2⟩ := Y0.atS 4 rfl q_9 q_10
              refine ⟨b_3, 0, hb_2, q_9, q_10, ?_⟩
              replace T := T x_3 hx_2
              refine ⟨_, Y0.cellS 4 rfl hb_2 (t := 0) hx_2 rfl, ?_⟩
              refine ⟨_, Y0.cellS 4 rfl hb_2 (t := 1) hx_2 rfl, ?_⟩
              refine ⟨_, Y0.cellS 4 rfl hb_2 (t := 2) hx_2 rfl, ?_⟩
              intro hv10
              have Y : Sy _ _ hv10 [_, _, _, _, _, _, _, _, _] := Y.junk _
              have F : Fr _ _ hv10 := F.pushr _
              have fshv10 := F.size
              clear_value hv10
              refine ⟨F, ?_⟩
              obtain ⟨q_11, T⟩ := T
              refine ⟨_, Y.ownS 1 rfl, (allc (Y.nJ 1 8 rfl rfl rfl) (allc (Y.nJ 1 7 rfl rfl rfl) alln)), by first | exact appB q_11 (by decide) | omega, by first | exact appM q_11 | (simp [maxLen]; omega), ?_⟩
              intro sA3 sC3 hv11 ow fA gA gB
              have Y : Sy _ _ hv11 [_, _, _, _, _, _, _, _, _] := Y.appS 1 rfl ([(x_3.1, x_3.2.1, x_3.2.2)] : List (Int × Int × Int)) ow fA gA rfl rfl
              intro hv12
              have Y : Sy _ _ hv12 [_, _, _, _, _, _, _, _, _] := (Y.stJ 7 rfl _ _)
              clear_value hv12
              exact ⟨_, _, _, _, _, _, _, _, _, _, rfl, Y.pick [0, 1, 2, 3, 4, 5, 6, 7] rfl, T⟩
            · exact ⟨_, _, _, _, _, _, _, _, _, _, rfl, Y.pick [0, 1, 2, 3, 4, 5, 6, 7] rfl, T⟩
          · subst hB_3
            clear T0 Y
            rintro c0A2 c0L2 c0C2 c1A2 c1L2 c1C2 c2_2 c3_2 hv13 ⟨c0A2, c0L2, c0C2, c0_2, c1A2, c1L2, c1C2, c1_2, c2_2, c3_2, e, Y, T⟩
            cases e
            obtain rfl := Y.lenS 0 rfl
            obtain rfl := Y.lenS 1 rfl
            replace T := T1 c0_2 c1_2 c2_2 c3_2 T
            have Y : Sy _ _ _ [_, _, _, _, _, _, _, _] := Y
            exact hK _ _ _ _ _ _ _ _ _ ⟨_, _, Y.pick [0, 1, 2, 3, 4, 5, 6, 7] rfl, T⟩
        · exact hK _ _ _ _ _ _ _ _ _ ⟨_, _, Y.pick [0, 1, 2, 3, 4, 5, 6, 7] rfl, T⟩
      · have Y0 := Y
        have F : Fr [] hv9 hv9 := Fr.refl _ _
        refine ⟨gB2, 0, rfl, ?_⟩
        refine ⟨_, _, _, Y0.cellO 2 rfl 1 rfl, ?_⟩
        refine ⟨gB2, 0, rfl, ?_⟩
        refine ⟨(Y.neJ 2 7 rfl rfl rfl (by simp [Ck.ob])), ⟨_, Y.cellO 2 rfl 0 rfl⟩, Y.freeO 2 rfl _, ⟨_, Y.cellO 2 rfl 1 rfl⟩, Y.freeO 2 rfl _, ⟨_, Y.cellO 2 rfl 2 rfl⟩, Y.freeO 2 rfl _, ⟨_, Y.cellO 2 rfl 3 rfl⟩, Y.freeO 2 rfl _, ?_⟩
        intro hv15
        have Y : Sy _ _ hv15 [_, _, _, _, _, _, _, _] := ((((Y.stO 2 rfl 0 _).stO 2 rfl 1 _).stO 2 rfl 2 _).stO 2 rfl 3 _)
        clear_value hv15
        exact ⟨_, _, _, _, _, _, _, _, _, _, _, _, _, Y.pick [2, 0, 1] rfl, rfl, T⟩
/-- (*tracery/traceryref4.Graph).DropEdge -/
def S189 (gP : Option Addr) (ev : Int) (h : Heap) (R : Value → Heap → Prop) : Prop :=
  callX Try.prog 221 #[.pointer gP, .int .i64 ev] h [] fun v hv =>
  ∃ r : Int, v = .int .i64 r ∧
  cnd (decide (r < (0 : Int)))
    (R (.int .i64 2) hv)
    (∃ Mv : List Nat, (∀ b ∈ ([] : List Nat), b ∉ Mv) ∧
    ∃ b o, gP = some ⟨b, o, none⟩ ∧ b ∉ Mv ∧ ∃ (xA : Option Addr) (xL xC : Nat), hcell hv b (o + 1) = some (.slice xA xL xC) ∧ 0 ≤ r ∧ r ≤ (xC : Nat) ∧ ∃ b2 o2, gP = some ⟨b2, o2, none⟩ ∧ b2 ∉ Mv ∧ ∃ (xA2 : Option Addr) (xL2 xC2 : Nat), hcell hv b2 (o2 + 1) = some (.slice xA2 xL2 xC2) ∧ 0 ≤ (IntKind.i64.wrap (r + (1 : Int))) ∧ (IntKind.i64.wrap (r + (1 : Int))) ≤ (xL2 : Nat) ∧ ∃ xs : List Value, Reads hv 3 (if xC = 0 then xA else Option.map (fun addr => Addr.add addr (0 * 3)) xA) ((Int.toNat r) - 0) xs ∧ ((if xC = 0 then xA else Option.map (fun addr => Addr.add addr (0 * 3)) xA) = none → (xC - 0) = 0) ∧ (∀ v ∈ xs, v.oneCell' = true) ∧ ∃ old, Ownd hv 239 3 none 0 0 old ∧ (∀ b ∈ ([] : List Nat), b ∉ blkOf none) ∧ (0 + ((Int.toNat r) - 0)) * 24 ≤ 140737488355328 ∧ (0 + ((Int.toNat r) - 0)) ≤ maxLen ∧
    ∀ sA sC hv2, Ownd hv2 239 3 sA (0 + ((Int.toNat r) - 0)) sC (old ++ xs) → Fr (blkOf none) hv hv2 → ((sA = none ∧ sC = 0) ∨ ∃ g, sA = some ⟨g, 0, none⟩ ∧ hv.size ≤ g) → (0 < (0 + ((Int.toNat r) - 0)) → Fr [] hv hv2) →
    Fr Mv hv hv2 ∧
    ∃ xs2 : List Value, Reads hv2 3 (if xC2 = (Int.toNat (IntKind.i64.wrap (r + (1 : Int)))) then xA2 else Option.map (fun addr => Addr.add addr ((Int.toNat (IntKind.i64.wrap (r + (1 : Int)))) * 3)) xA2) (xL2 - (Int.toNat (IntKind.i64.wrap (r + (1 : Int))))) xs2 ∧ ((if xC2 = (Int.toNat (IntKind.i64.wrap (r + (1 : Int)))) then xA2 else Option.map (fun addr => Addr.add addr ((Int.toNat (IntKind.i64.wrap (r + (1 : Int)))) * 3)) xA2) = none → (xC2 - (Int.toNat (IntKind.i64.wrap (r + (1 : Int))))) = 0) ∧ (∀ v ∈ xs2, v.oneCell' = true) ∧ ∃ old2, Ownd hv2 239 3 sA (0 + ((Int.toNat r) - 0)) sC old2 ∧ (∀ b ∈ ([] : List Nat), b ∉ blkOf sA) ∧ ((0 + ((Int.toNat r) - 0)) + (xL2 - (Int.toNat (IntKind.i64.wrap (r + (1 : Int)))))) * 24 ≤ 140737488355328 ∧ ((0 + ((Int.toNat r) - 0)) + (xL2 - (Int.toNat (IntKind.i64.wrap (r + (1 : Int)))))) ≤ maxLen ∧
    ∀ sA2 sC2 hv3, Ownd hv3 239 3 sA2 ((0 + ((Int.toNat r) - 0)) + (xL2 - (Int.toNat (IntKind.i64.wrap (r + (1 : Int)))))) sC2 (old2 ++ xs2) → Fr (blkOf sA) hv2 hv3 → ((sA2 = sA ∧ sC2 = sC) ∨ ∃ g, sA2 = some ⟨g, 0, none⟩ ∧ hv2.size ≤ g) → (sC < ((0 + ((Int.toNat r) - 0)) + (xL2 - (Int.toNat (IntKind.i64.wrap (r + (1 : Int)))))) → Fr [] hv2 hv3) →
    Fr Mv hv hv3 ∧
    ∃ b3 o3, gP = some ⟨b3, o3, none⟩ ∧ (∃ u, hcell hv3 b3 (o3 + 1) = some u) ∧ hfree hv3 b3 (o3 + 1) = true ∧ let hv4 : Heap := hset hv3 b3 (o3 + 1) (.slice sA2 ((0 + ((Int.toNat r) - 0)) + (xL2 - (Int.toNat (IntKind.i64.wrap (r + (1 : Int)))))) sC2)
    R (.int .i64 0) hv4)
theorem calls189 {h : Heap} {R : Value → Heap → Prop} (gP : Option Addr) (ev : Int) (H : S189 gP ev h R) : CallsH Try.prog 189 #[.pointer gP, .int .i64 ev] h R := by
  have e : S189 gP ev h R = FX (envX [] 32) { loops := [], joins := [], blocks := [], draws := [(4, ⟨18, true⟩)] } Try.f189 (Try.f189.body.getD .skip) [.pointer gP, .int .i64 ev] h R := by kernel_rfl
  exact calls_of_FX (envX_ok _ _) Try.func189 (by kernel_rfl) (by kernel_rfl) (by kernel_rfl) (e ▸ H)
/-- (*tracery/traceryref4.Graph).DropEdge -/
def Ok189v (nodesV : List Int) (edgesV : List (Int × Int × Int)) (nodeV : Int) (edgeIDV : Int) (lastV : Int) (ev : Int) (R : List Int → List (Int × Int × Int) → Int → Int → Int → Int → Prop) : Prop :=
  ∀ (h : Heap) (gB2 : Nat) (nodesVA : Option Addr) (nodesVL nodesVC : Nat) (edgesVA : Option Addr) (edgesVL edgesVC : Nat) (marksVA : Option Addr) (marksVL marksVC : Nat), Hp h [Ck.ob gB2 155 [.slice nodesVA nodesVL nodesVC, .slice edgesVA edgesVL edgesVC, .int .i64 nodeV, .int .i64 edgeIDV, .slice marksVA marksVL marksVC, .int .i64 lastV], Ck.sl eI 3 nodesVA nodesVL nodesVC nodesV, Ck.sl e3 239 edgesVA edgesVL edgesVC edgesV] → CallsH Try.prog 189 #[.pointer (some ⟨gB2, 0, none⟩), .int .i64 ev] h fun v h' => ∃ (nodesVA2 : Option Addr) (nodesVL2 nodesVC2 : Nat) (nodesV1 : List Int) (edgesVA2 : Option Addr) (edgesVL2 edgesVC2 : Nat) (edgesV1 : List (Int × Int × Int)) (nodeV2 : Int) (edgeIDV2 : Int) (lastV2 : Int) (rV : Int), Sy h (owns [Ck.ob gB2 155 [.slice nodesVA nodesVL nodesVC, .slice edgesVA edgesVL edgesVC, .int .i64 nodeV, .int .i64 edgeIDV, .slice marksVA marksVL marksVC, .int .i64 lastV], Ck.sl eI 3 nodesVA nodesVL nodesVC nodesV, Ck.sl e3 239 edgesVA edgesVL edgesVC edgesV]) h' [Ck.ob gB2 155 [.slice nodesVA2 nodesVL2 nodesVC2, .slice edgesVA2 edgesVL2 edgesVC2, .int .i64 nodeV2, .int .i64 edgeIDV2, .slice marksVA marksVL marksVC, .int .i64 lastV2], Ck.sl eI 3 nodesVA2 nodesVL2 nodesVC2 nodesV1, Ck.sl e3 239 edgesVA2 edgesVL2 edgesVC2 edgesV1] ∧ v = .int .i64 rV ∧ R nodesV1 edgesV1 nodeV2 edgeIDV2 lastV2 rV
theorem Ok189v.mono {nodesV edgesV nodeV edgeIDV lastV ev} {R R' : List Int → List (Int × Int × Int) → Int → Int → Int → Int → Prop} (H : Ok189v nodesV edgesV nodeV edgeIDV lastV ev R) (kz : ∀ nodesV1 edgesV1 nodeV2 edgeIDV2 lastV2 rV, R nodesV1 edgesV1 nodeV2 edgeIDV2 lastV2 rV → R' nodesV1 edgesV1 nodeV2 edgeIDV2 lastV2 rV) : Ok189v nodesV edgesV nodeV edgeIDV lastV ev R' :=
  fun h gB2 nodesVA nodesVL nodesVC edgesVA edgesVL edgesVC marksVA marksVL marksVC hp => (H h gB2 nodesVA nodesVL nodesVC edgesVA edgesVL edgesVC marksVA marksVL marksVC hp).mono fun _ _ ⟨nodesVA2, nodesVL2, nodesVC2, nodesV1, edgesVA2, edgesVL2, edgesVC2, edgesV1, nodeV2, edgeIDV2, lastV2, rV, P, e, q⟩ => ⟨nodesVA2, nodesVL2, nodesVC2, nodesV1, edgesVA2, edgesVL2, edgesVC2, edgesV1, nodeV2, edgeIDV2, lastV2, rV, P, e, kz _ _ _ _ _ _ q⟩
def T189v (nodesV : List Int) (edgesV : List (Int × Int × Int)) (nodeV : Int) (edgeIDV : Int) (lastV : Int) (ev : Int) (R : List Int → List (Int × Int × Int) → Int → Int → Int → Int → Prop) : Prop :=
  Ok221v nodesV edgesV nodeV edgeIDV lastV ev (fun r =>
  cnd (decide (r < (0 : Int)))
    (R nodesV edgesV nodeV edgeIDV lastV 2)
    (0 ≤ r ∧ r ≤ ((edgesV.length : Nat) : Int) ∧ 0 ≤ (IntKind.i64.wrap (r + (1 : Int))) ∧ (IntKind.i64.wrap (r + (1 : Int))) ≤ ((edgesV.length : Nat) : Int) ∧ (0 + ((Int.toNat r) - 0)) < 1000000000000 ∧ ((0 + ((Int.toNat r) - 0)) + (edgesV.length - (Int.toNat (IntKind.i64.wrap (r + (1 : Int)))))) < 1000000000000 ∧ R nodesV ((([] : List (Int × Int × Int)) ++ (edgesV.take (Int.toNat r))) ++ (edgesV.drop (Int.toNat (IntKind.i64.wrap (r + (1 : Int)))))) nodeV edgeIDV lastV 0))
theorem ok189v {nodesV edgesV nodeV edgeIDV lastV ev} {R : List Int → List (Int × Int × Int) → Int → Int → Int → Int → Prop} (T : T189v nodesV edgesV nodeV edgeIDV lastV ev R) : Ok189v nodesV edgesV nodeV edgeIDV lastV ev R := by
  intro h gB2 nodesVA nodesVL nodesVC edgesVA edgesVL edgesVC marksVA marksVL marksVC H
  have Y : Sy h (owns [Ck.ob gB2 155 [.slice nodesVA nodesVL nodesVC, .slice edgesVA edgesVL edgesVC, .int .i64 nodeV, .int .i64 edgeIDV, .slice marksVA marksVL marksVC, .int .i64 lastV], Ck.sl eI 3 nodesVA nodesVL nodesVC nodesV, Ck.sl e3 239 edgesVA edgesVL edgesVC edgesV]) h _ := Sy.startM H rfl
  obtain rfl := Y.lenS 1 rfl
  obtain rfl := Y.lenS 2 rfl
  apply calls189
  unfold S189
  unfold T189v at T
  refine callX_sy (T _ _ _ _ _ _ _ _ _ _ _ _ ((((Y.turn 0 rfl To.obvob).turn 1 rfl To.slvw).turn 2 rfl To.slvw).pick [0, 1, 2] rfl).hp) (fun _ _ ⟨_, p, _⟩ => p.fr) alln ?_
  rintro v hv ⟨r, PP, rfl, T⟩
  have Y : Sy _ _ hv [_, _, _] := Y.gr PP.fr
  clear PP
  refine ⟨r, rfl, ?_⟩
  refine cnd_imp T (fun T => ?_) (fun T => ?_)
  · exact ⟨_, _, _, _, _, _, _, _, _, _, _, _, Y.pick [0, 1, 2] rfl, rfl, T⟩
  · have Y0 := Y
    obtain ⟨Mx, hMx⟩ := Y.mt [] []
    refine ⟨Mx, ?_⟩
    subst hMx
    refine ⟨alln, ?_⟩
    have F : Fr _ hv hv := Y0.frM [] []
    refine ⟨gB2, 0, rfl, ?_⟩
    refine ⟨(Y0.nMo 0 [] [] rfl rfl (by simp [Ck.ob])), ?_⟩
    refine ⟨_, _, _, Y0.cellO 0 rfl 1 rfl, ?_⟩
    obtain ⟨q, q_2, T⟩ := T
    refine ⟨q, (by have := (Y.capS 2 rfl).1; omega), ?_⟩
    try rw [slice0]
    refine ⟨gB2, 0, rfl, ?_⟩
    refine ⟨(Y0.nMo 0 [] [] rfl rfl (by simp [Ck.ob])), ?_⟩
    refine ⟨_, _, _, Y0.cellO 0 rfl 1 rfl, ?_⟩
    obtain ⟨q_3, q_4, T⟩ := T
    refine ⟨q_3, q_4, ?_⟩
    refine ⟨_, (Y.readsS 2 rfl).takeR (Int.toNat r) (by omega), (Y.capS 2 rfl).2.2, En.l_one _, ?_⟩
    have Y : Sy _ _ _ [_, _, _, _] := Y.nilS e3 239
    obtain ⟨q_5, T⟩ := T
    refine ⟨_, Y.ownS 3 rfl, alln, by first | exact appB q_5 (by decide) | omega, by first | exact appM q_5 | (simp [maxLen]; omega), ?_⟩
    intro sA sC hv2 ow fA gA gB
    have Y : Sy _ _ hv2 [_, _, _, _] := Y.appS 3 rfl (edgesV.take (Int.toNat r)) ow fA gA rfl (by simp <;> omega)
    have ns := F.appIn nil_in gA (Nat.le_refl _)
    have F : Fr _ _ hv2 := F.comp fA nil_in
    have fshv2 := F.size
    refine ⟨F, ?_⟩
    refine ⟨_, ((Y.readsS 2 rfl)).dropR (Int.toNat (IntKind.i64.wrap (r + (1 : Int)))) (by omega) (Y.capS 2 rfl).1 (Y.capS 2 rfl).2.2 (by omega), dropNc (Y.capS 2 rfl).2.2, En.l_one _, ?_⟩
    obtain ⟨q_6, T⟩ := T
    refine ⟨_, Y.ownS 3 rfl, alln, by first | exact appB q_6 (by decide) | omega, by first | exact appM q_6 | (simp [maxLen]; omega), ?_⟩
    intro sA2 sC2 hv3 ow fA gA gB
    have Y : Sy _ _ hv3 [_, _, _, _] := Y.appS 3 rfl (edgesV.drop (Int.toNat (IntKind.i64.wrap (r + (1 : Int))))) ow fA gA rfl (by simp <;> omega)
    have ns_2 := F.appIn ns gA fshv2
    have F : Fr _ _ hv3 := F.comp fA ns
    have fshv3 := F.size
    refine ⟨F, ?_⟩
    refine ⟨gB2, 0, rfl, ?_⟩
    refine ⟨⟨_, Y.cellO 0 rfl 1 rfl⟩, Y.freeO 0 rfl _, ?_⟩
    intro hv4
    have Y : Sy _ _ hv4 [_, _, _, _] := (Y.stO 0 rfl 1 _)
    clear_value hv4
    exact ⟨_, _, _, _, _, _, _, _, _, _, _, _, Y.pick [0, 1, 3] rfl, rfl, T⟩
/-- (*tracery/traceryref4.Graph).Split -/
def S190 (gP : Option Addr) (ev : Int) (h : Heap) (R : Value → Heap → Prop) : Prop :=
  callX Try.prog 221 #[.pointer gP, .int .i64 ev] h [] fun v hv =>
  ∃ r : Int, v = .int .i64 r ∧
  cnd (decide (r < (0 : Int)))
    (R (.tuple #[.int .i64 0, .int .i64 0, .int .i64 2]) hv)
    (∃ b o, gP = some ⟨b, o, none⟩ ∧ ∃ (xA : Option Addr) (xL xC : Nat), hcell hv b o = some (.slice xA xL xC) ∧ cnd (((xL : Nat) : Int) == (1024 : Int))
      (R (.tuple #[.int .i64 0, .int .i64 0, .int .i64 3]) hv)
      (∃ b2 o2, gP = some ⟨b2, o2, none⟩ ∧ ∃ (xA2 : Option Addr) (xL2 xC2 : Nat), hcell hv b2 (o2 + 1) = some (.slice xA2 xL2 xC2) ∧ cnd (((xL2 : Nat) : Int) == (3072 : Int))
        (R (.tuple #[.int .i64 0, .int .i64 0, .int .i64 3]) hv)
        (callX Try.prog 186 #[.pointer gP] hv [] fun v2 hv2 =>
        ∃ ra : Int, ∃ rb : Int, v2 = .tuple #[.int .i64 ra, .int .i64 rb] ∧
        ∃ b3 o3, gP = some ⟨b3, o3, none⟩ ∧ ∃ (xA3 : Option Addr) (xL3 xC3 : Nat), hcell hv2 b3 (o3 + 1) = some (.slice xA3 xL3 xC3) ∧ ∃ b4 o4, xA3 = some ⟨b4, o4, none⟩ ∧ 0 ≤ r ∧ r < (xL3 : Nat) ∧ ∃ x : Int, hcell hv2 b4 ((o4 + (Int.toNat r) * 3) + 2) = some (.int .i64 x) ∧ ∃ b5 o5, gP = some ⟨b5, o5, none⟩ ∧ ∃ (xA4 : Option Addr) (xL4 xC4 : Nat), hcell hv2 b5 (o5 + 1) = some (.slice xA4 xL4 xC4) ∧ ∃ b6 o6, xA4 = some ⟨b6, o6, none⟩ ∧ 0 ≤ r ∧ r < (xL4 : Nat) ∧ (∃ u, hcell hv2 b6 ((o6 + (Int.toNat r) * 3) + 2) = some u) ∧ hfree hv2 b6 ((o6 + (Int.toNat r) * 3) + 2) = true ∧ let hv3 : Heap := hset hv2 b6 ((o6 + (Int.toNat r) * 3) + 2) (.int .i64 ra)
        callX Try.prog 187 #[.pointer gP, .int .i64 ra, .int .i64 x] hv3 [] fun v3 hv4 =>
        ∃ ra2 : Int, ∃ rb2 : Int, v3 = .tuple #[.int .i64 ra2, .int .i64 rb2] ∧
        R (.tuple #[.int .i64 ra, .int .i64 ra2, .int .i64 0]) hv4)))
theorem calls190 {h : Heap} {R : Value → Heap → Prop} (gP : Option Addr) (ev : Int) (H : S190 gP ev h R) : CallsH Try.prog 190 #[.pointer gP, .int .i64 ev] h R := by
  have e : S190 gP ev h R = FX (envX [] 66) { loops := [], joins := [], blocks := [], draws := [] } Try.f190 (Try.f190.body.getD .skip) [.pointer gP, .int .i64 ev] h R := by kernel_rfl
  exact calls_of_FX (envX_ok _ _) Try.func190 (by kernel_rfl) (by kernel_rfl) (by kernel_rfl) (e ▸ H)
/-- (*tracery/traceryref4.Graph).Split -/
def Ok190v (nodesV : List Int) (edgesV : List (Int × Int × Int)) (nodeV : Int) (edgeIDV : Int) (lastV : Int) (ev : Int) (R : List Int → List (Int × Int × Int) → Int → Int → Int → Int → Int → Int → Prop) : Prop :=
  ∀ (h : Heap) (gB2 : Nat) (nodesVA : Option Addr) (nodesVL nodesVC : Nat) (edgesVA : Option Addr) (edgesVL edgesVC : Nat) (marksVA : Option Addr) (marksVL marksVC : Nat), Hp h [Ck.ob gB2 155 [.slice nodesVA nodesVL nodesVC, .slice edgesVA edgesVL edgesVC, .int .i64 nodeV, .int .i64 edgeIDV, .slice marksVA marksVL marksVC, .int .i64 lastV], Ck.sl eI 3 nodesVA nodesVL nodesVC nodesV, Ck.sl e3 239 edgesVA edgesVL edgesVC edgesV] → CallsH Try.prog 190 #[.pointer (some ⟨gB2, 0, none⟩), .int .i64 ev] h fun v h' => ∃ (nodesVA2 : Option Addr) (nodesVL2 nodesVC2 : Nat) (nodesV1 : List Int) (edgesVA2 : Option Addr) (edgesVL2 edgesVC2 : Nat) (edgesV1 : List (Int × Int × Int)) (nodeV2 : Int) (edgeIDV2 : Int) (lastV2 : Int) (raV : Int) (rbV : Int) (rcV : Int), Sy h (owns [Ck.ob gB2 155 [.slice nodesVA nodesVL nodesVC, .slice edgesVA edgesVL edgesVC, .int .i64 nodeV, .int .i64 edgeIDV, .slice marksVA marksVL marksVC, .int .i64 lastV], Ck.sl eI 3 nodesVA nodesVL nodesVC nodesV, Ck.sl e3 239 edgesVA edgesVL edgesVC edgesV]) h' [Ck.ob gB2 155 [.slice nodesVA2 nodesVL2 nodesVC2, .slice edgesVA2 edgesVL2 edgesVC2, .int .i64 nodeV2, .int .i64 edgeIDV2, .slice marksVA marksVL marksVC, .int .i64 lastV2], Ck.sl eI 3 nodesVA2 nodesVL2 nodesVC2 nodesV1, Ck.sl e3 239 edgesVA2 edgesVL2 edgesVC2 edgesV1] ∧ v = .tuple #[.int .i64 raV, .int .i64 rbV, .int .i64 rcV] ∧ R nodesV1 edgesV1 nodeV2 edgeIDV2 lastV2 raV rbV rcV
theorem Ok190v.mono {nodesV edgesV nodeV edgeIDV lastV ev} {R R' : List Int → List (Int × Int × Int) → Int → Int → Int → Int → Int → Int → Prop} (H : Ok190v nodesV edgesV nodeV edgeIDV lastV ev R) (kz : ∀ nodesV1 edgesV1 nodeV2 edgeIDV2 lastV2 raV rbV rcV, R nodesV1 edgesV1 nodeV2 edgeIDV2 lastV2 raV rbV rcV → R' nodesV1 edgesV1 nodeV2 edgeIDV2 lastV2 raV rbV rcV) : Ok190v nodesV edgesV nodeV edgeIDV lastV ev R' :=
  fun h gB2 nodesVA nodesVL nodesVC edgesVA edgesVL edgesVC marksVA marksVL marksVC hp => (H h gB2 nodesVA nodesVL nodesVC edgesVA edgesVL edgesVC marksVA marksVL marksVC hp).mono fun _ _ ⟨nodesVA2, nodesVL2, nodesVC2, nodesV1, edgesVA2, edgesVL2, edgesVC2, edgesV1, nodeV2, edgeIDV2, lastV2, raV, rbV, rcV, P, e, q⟩ => ⟨nodesVA2, nodesVL2, nodesVC2, nodesV1, edgesVA2, edgesVL2, edgesVC2, edgesV1, nodeV2, edgeIDV2, lastV2, raV, rbV, rcV, P, e, kz _ _ _ _ _ _ _ _ q⟩
def T190v (nodesV : List Int) (edgesV : List (Int × Int × Int)) (nodeV : Int) (edgeIDV : Int) (lastV : Int) (ev : Int) (R : List Int → List (Int × Int × Int) → Int → Int → Int → Int → Int → Int → Prop) : Prop :=
  Ok221v nodesV edgesV nodeV edgeIDV lastV ev (fun r =>
  cnd (decide (r < (0 : Int)))
    (R nodesV edgesV nodeV edgeIDV lastV 0 0 2)
    (cnd (((nodesV.length : Nat) : Int) == (1024 : Int))
      (R nodesV edgesV nodeV edgeIDV lastV 0 0 3)
      (cnd (((edgesV.length : Nat) : Int) == (3072 : Int))
        (R nodesV edgesV nodeV edgeIDV lastV 0 0 3)
        (Ok186v nodesV edgesV nodeV edgeIDV lastV (fun nodesV1_2 edgesV1_2 nodeV2_2 edgeIDV2_2 lastV2_2 ra rb =>
        0 ≤ r ∧ r < ((edgesV1_2.length : Nat) : Int) ∧ ∀ x_2 : (Int × Int × Int), edgesV1_2[(Int.toNat r)]? = some x_2 → Ok187v nodesV1_2 (edgesV1_2.set (Int.toNat r) (x_2.1, x_2.2.1, ra)) nodeV2_2 edgeIDV2_2 lastV2_2 ra x_2.2.2 (fun nodesV1_3 edgesV1_3 nodeV2_3 edgeIDV2_3 lastV2_3 ra2 rb2 =>
        R nodesV1_3 edgesV1_3 nodeV2_3 edgeIDV2_3 lastV2_3 ra ra2 0))))))
theorem ok190v {nodesV edgesV nodeV edgeIDV lastV ev} {R : List Int → List (Int × Int × Int) → Int → Int → Int → Int → Int → Int → Prop} (T : T190v nodesV edgesV nodeV edgeIDV lastV ev R) : Ok190v nodesV edgesV nodeV edgeIDV lastV ev R := by
  intro h gB2 nodesVA nodesVL nodesVC edgesVA edgesVL edgesVC marksVA marksVL marksVC H
  have Y : Sy h (owns [Ck.ob gB2 155 [.slice nodesVA nodesVL nodesVC, .slice edgesVA edgesVL edgesVC, .int .i64 nodeV, .int .i64 edgeIDV, .slice marksVA marksVL marksVC, .int .i64 lastV], Ck.sl eI 3 nodesVA nodesVL nodesVC nodesV, Ck.sl e3 239 edgesVA edgesVL edgesVC edgesV]) h _ := Sy.startM H rfl
  obtain rfl := Y.lenS 1 rfl
  obtain rfl := Y.lenS 2 rfl
  apply calls190
  unfold S190
  unfold T190v at T
  refine callX_sy (T _ _ _ _ _ _ _ _ _ _ _ _ ((((Y.turn 0 rfl To.obvob).turn 1 rfl To.slvw).turn 2 rfl To.slvw).pick [0, 1, 2] rfl).hp) (fun _ _ ⟨_, p, _⟩ => p.fr) alln ?_
  rintro v hv ⟨r, PP, rfl, T⟩
  have Y : Sy _ _ hv [_, _, _] := Y.gr PP.fr
  clear PP
  refine ⟨r, rfl, ?_⟩
  refine cnd_imp T (fun T => ?_) (fun T => ?_)
  · exact ⟨_, _, _, _, _, _, _, _, _, _, _, _, _, _, Y.pick [0, 1, 2] rfl, rfl, T⟩
  · refine ⟨gB2, 0, rfl, ?_⟩
    refine ⟨_, _, _, Y.cellO 0 rfl 0 rfl, ?_⟩
    refine cnd_imp T (fun T => ?_) (fun T => ?_)
    · exact ⟨_, _, _, _, _, _, _, _, _, _, _, _, _, _, Y.pick [0, 1, 2] rfl, rfl, T⟩
    · refine ⟨gB2, 0, rfl, ?_⟩
      refine ⟨_, _, _, Y.cellO 0 rfl 1 rfl, ?_⟩
      refine cnd_imp T (fun T => ?_) (fun T => ?_)
      · exact ⟨_, _, _, _, _, _, _, _, _, _, _, _, _, _, Y.pick [0, 1, 2] rfl, rfl, T⟩
      · refine callX_sy (T _ _ _ _ _ _ _ _ _ _ _ (Y.pick [0, 1, 2] rfl).hp) (fun _ _ ⟨_, _, _, _, _, _, _, _, _, _, _, _, _, p, _⟩ => p.fr) alln ?_
        rintro v2 hv2 ⟨nodesVA2_2, nodesVL2_2, nodesVC2_2, nodesV1_2, edgesVA2_2, edgesVL2_2, edgesVC2_2, edgesV1_2, nodeV2_2, edgeIDV2_2, lastV2_2, ra, rb, PP, rfl, T⟩
        have Y : Sy _ _ hv2 [_, _, _] := Y.call2 [0, 1, 2] rfl (A := [_, _, _]) rfl rfl PP ⟨rfl, ⟨rfl, ⟨rfl, trivial⟩⟩⟩
        clear PP
        obtain rfl := Y.lenS 1 rfl
        obtain rfl := Y.lenS 2 rfl
        refine ⟨ra, rb, rfl, ?_⟩
        refine ⟨gB2, 0, rfl, ?_⟩
        refine ⟨_, _, _, Y.cellO 0 rfl 1 rfl, ?_⟩
        obtain ⟨q, q_2, T⟩ := T
        obtain ⟨b_2, hb, ho, x_2, hx⟩ := Y.atS 2 rfl q q_2
        refine ⟨b_2, 0, hb, q, q_2, ?_⟩
        replace T := T x_2 hx
        refine ⟨_, Y.cellS 2 rfl hb (t := 2) hx rfl, ?_⟩
        refine ⟨gB2, 0, rfl, ?_⟩
        refine ⟨_, _, _, Y.cellO 0 rfl 1 rfl, ?_⟩
        refine ⟨b_2, 0, hb, q, q_2, ?_⟩
        refine ⟨Y.cellEx 2 rfl hb (t := 2) (by omega) (by decide), Y.freeS 2 rfl hb _, ?_⟩
        intro hv3
        have Y : Sy _ _ hv3 [_, _, _] := Y.stS 2 rfl hb (t := 2) (x_2.1, x_2.2.1, ra) hx (by decide) rfl
        clear_value hv3
        refine callX_sy (T _ _ _ _ _ _ _ _ _ _ _ (Y.pick [0, 1, 2] rfl).hp) (fun _ _ ⟨_, _, _, _, _, _, _, _, _, _, _, _, _, p, _⟩ => p.fr) alln ?_
        rintro v3 hv4 ⟨nodesVA2_3, nodesVL2_3, nodesVC2_3, nodesV1_3, edgesVA2_3, edgesVL2_3, edgesVC2_3, edgesV1_3, nodeV2_3, edgeIDV2_3, lastV2_3, ra2, rb2, PP, rfl, T⟩
        have Y : Sy _ _ hv4 [_, _, _] := Y.call2 [0, 1, 2] rfl (A := [_, _, _]) rfl rfl PP ⟨rfl, ⟨rfl, ⟨rfl, trivial⟩⟩⟩
        clear PP
        obtain rfl := Y.lenS 1 rfl
        obtain rfl := Y.lenS 2 rfl
        refine ⟨ra2, rb2, rfl, ?_⟩
        exact ⟨_, _, _, _, _, _, _, _, _, _, _, _, _, _, Y.pick [0, 1, 2] rfl, rfl, T⟩
/-- (*tracery/traceryref4.Graph).Unsplit -/
def S191 (gP : Option Addr) (v : Int) (h : Heap) (R : Value → Heap → Prop) : Prop :=
  callX Try.prog 219 #[.pointer gP, .int .i64 v] h [] fun v2 hv =>
  ∃ r : Int, v2 = .int .i64 r ∧
  cnd (decide (r < (0 : Int)))
    (R (.tuple #[.int .i64 0, .int .i64 2]) hv)
    (∃ (Iv : List Value → Heap → Prop) (m : List Value → Heap → Nat), Iv [.slice none 0 0, .int .i64 0] hv ∧ -- loop 0: ['at', 'i']
    ∀ (atA : Option Addr) (atL atC : Nat), ∀ i : Int, ∀ hv2, Iv [.slice atA atL atC, .int .i64 i] hv2 →
    ∃ b o, gP = some ⟨b, o, none⟩ ∧ ∃ (xA : Option Addr) (xL xC : Nat), hcell hv2 b (o + 1) = some (.slice xA xL xC) ∧ cnd (decide (i < ((xL : Nat) : Int)))
      (∃ b2 o2, gP = some ⟨b2, o2, none⟩ ∧ ∃ (xA2 : Option Addr) (xL2 xC2 : Nat), hcell hv2 b2 (o2 + 1) = some (.slice xA2 xL2 xC2) ∧ ∃ b3 o3, xA2 = some ⟨b3, o3, none⟩ ∧ 0 ≤ i ∧ i < (xL2 : Nat) ∧ ∃ x : Int, hcell hv2 b3 (o3 + (Int.toNat i) * 3) = some (.int .i64 x) ∧ ∃ x2 : Int, hcell hv2 b3 ((o3 + (Int.toNat i) * 3) + 1) = some (.int .i64 x2) ∧ ∃ x3 : Int, hcell hv2 b3 (((o3 + (Int.toNat i) * 3) + 1) + 1) = some (.int .i64 x3) ∧ let hv3 : Heap := hv2.push (.cells #[.int .i64 0, .int .i64 0, .int .i64 0] 239)
      let hv4 : Heap := hset (hset (hset hv3 hv2.size 0 (.int .i64 x)) hv2.size (0 + 1) (.int .i64 x2)) hv2.size ((0 + 1) + 1) (.int .i64 x3)
      let K := fun (hv5 : Heap) =>
        (cnd (x2 == v)
          (let hv6 : Heap := hv5.push (.cells #[.int .i64 i] 3)
          ∃ old, Ownd hv6 3 1 atA atL atC old ∧ (∀ b ∈ ([hv5.size, hv2.size] : List Nat), b ∉ blkOf atA) ∧ (atL + 1) * 8 ≤ 140737488355328 ∧ (atL + 1) ≤ maxLen ∧
          ∀ sA sC hv7, Ownd hv7 3 1 sA (atL + 1) sC (old ++ [.int .i64 i]) → Fr (blkOf atA) hv6 hv7 → ((sA = atA ∧ sC = atC) ∨ ∃ g, sA = some ⟨g, 0, none⟩ ∧ hv6.size ≤ g) → (atC < (atL + 1) → Fr [] hv6 hv7) →
          Iv [.slice sA (atL + 1) sC, .int .i64 (IntKind.i64.wrap (i + (1 : Int)))] hv7 ∧ m [.slice sA (atL + 1) sC, .int .i64 (IntKind.i64.wrap (i + (1 : Int)))] hv7 < m [.slice atA atL atC, .int .i64 i] hv2)
          (∃ Jv : List Value → Heap → Prop, -- join 54 ['at']
          ( cnd (x3 == v)
             (let hv8 : Heap := hv5.push (.cells #[.int .i64 i] 3)
             ∃ old2, Ownd hv8 3 1 atA atL atC old2 ∧ (∀ b ∈ ([hv5.size, hv2.size] : List Nat), b ∉ blkOf atA) ∧ (atL + 1) * 8 ≤ 140737488355328 ∧ (atL + 1) ≤ maxLen ∧
             ∀ sA2 sC2 hv9, Ownd hv9 3 1 sA2 (atL + 1) sC2 (old2 ++ [.int .i64 i]) → Fr (blkOf atA) hv8 hv9 → ((sA2 = atA ∧ sC2 = atC) ∨ ∃ g, sA2 = some ⟨g, 0, none⟩ ∧ hv8.size ≤ g) → (atC < (atL + 1) → Fr [] hv8 hv9) →
             Jv [.slice sA2 (atL + 1) sC2] hv9)
             (Jv [.slice atA atL atC] hv5)) ∧
          ∀ (atA2 : Option Addr) (atL2 atC2 : Nat), ∀ hv10, Jv [.slice atA2 atL2 atC2] hv10 →
          Iv [.slice atA2 atL2 atC2, .int .i64 (IntKind.i64.wrap (i + (1 : Int)))] hv10 ∧ m [.slice atA2 atL2 atC2, .int .i64 (IntKind.i64.wrap (i + (1 : Int)))] hv10 < m [.slice atA atL atC, .int .i64 i] hv2))
      cnd (x2 == v)
        (cnd (x3 == v)
          (R (.tuple #[.int .i64 0, .int .i64 10]) hv4)
          (K hv4))
        (K hv4))
      (cnd (((atL : Nat) : Int) != (2 : Int))
        (R (.tuple #[.int .i64 0, .int .i64 10]) hv2)
        (∃ b4 o4, gP = some ⟨b4, o4, none⟩ ∧ ∃ (xA3 : Option Addr) (xL3 xC3 : Nat), hcell hv2 b4 (o4 + 1) = some (.slice xA3 xL3 xC3) ∧ ∃ b5 o5, atA = some ⟨b5, o5, none⟩ ∧ 0 ≤ (1 : Int) ∧ (1 : Int) < (atL : Nat) ∧ ∃ x4 : Int, hcell hv2 b5 (o5 + (Int.toNat (1 : Int)) * 1) = some (.int .i64 x4) ∧ ∃ b6 o6, xA3 = some ⟨b6, o6, none⟩ ∧ 0 ≤ x4 ∧ x4 < (xL3 : Nat) ∧ ∃ x5 : Int, hcell hv2 b6 (o6 + (Int.toNat x4) * 3) = some (.int .i64 x5) ∧ ∃ x6 : Int, hcell hv2 b6 ((o6 + (Int.toNat x4) * 3) + 1) = some (.int .i64 x6) ∧ ∃ x7 : Int, hcell hv2 b6 (((o6 + (Int.toNat x4) * 3) + 1) + 1) = some (.int .i64 x7) ∧ let hv11 : Heap := hv2.push (.cells #[.int .i64 0, .int .i64 0, .int .i64 0] 239)
        Fr [] hv2 hv11 ∧
        let hv12 : Heap := hset (hset (hset hv11 hv2.size 0 (.int .i64 x5)) hv2.size (0 + 1) (.int .i64 x6)) hv2.size ((0 + 1) + 1) (.int .i64 x7)
        ∃ Jv2 : List Value → Heap → Prop, -- join 77 ['far']
        ( cnd (x6 == v)
           (Jv2 [.int .i64 x7] hv12)
           (Jv2 [.int .i64 x6] hv12)) ∧
        ∀ far : Int, ∀ hv13, Jv2 [.int .i64 far] hv13 →
        ∃ b7 o7, gP = some ⟨b7, o7, none⟩ ∧ ∃ (xA4 : Option Addr) (xL4 xC4 : Nat), hcell hv13 b7 (o7 + 1) = some (.slice xA4 xL4 xC4) ∧ ∃ b8 o8, atA = some ⟨b8, o8, none⟩ ∧ 0 ≤ (0 : Int) ∧ (0 : Int) < (atL : Nat) ∧ ∃ x8 : Int, hcell hv13 b8 (o8 + (Int.toNat (0 : Int)) * 1) = some (.int .i64 x8) ∧ ∃ b9 o9, xA4 = some ⟨b9, o9, none⟩ ∧ 0 ≤ x8 ∧ x8 < (xL4 : Nat) ∧ ∃ x9 : Int, hcell hv13 b9 ((o9 + (Int.toNat x8) * 3) + 1) = some (.int .i64 x9) ∧ ∃ Jv3 : List Value → Heap → Prop, -- join 94 []
        ( cnd (x9 == v)
           (b9 ≠ hv2.size ∧ (∃ u, hcell hv13 b9 ((o9 + (Int.toNat x8) * 3) + 1) = some u) ∧ hfree hv13 b9 ((o9 + (Int.toNat x8) * 3) + 1) = true ∧ let hv14 : Heap := hset hv13 b9 ((o9 + (Int.toNat x8) * 3) + 1) (.int .i64 far)
           Jv3 [] hv14)
           (b9 ≠ hv2.size ∧ (∃ u, hcell hv13 b9 ((o9 + (Int.toNat x8) * 3) + 2) = some u) ∧ hfree hv13 b9 ((o9 + (Int.toNat x8) * 3) + 2) = true ∧ let hv15 : Heap := hset hv13 b9 ((o9 + (Int.toNat x8) * 3) + 2) (.int .i64 far)
           Jv3 [] hv15)) ∧
        ∀ hv16, Jv3 [] hv16 →
        ∃ x10 : Int, hcell hv16 b9 (o9 + (Int.toNat x8) * 3) = some (.int .i64 x10) ∧ callX Try.prog 189 #[.pointer gP, .int .i64 x5] hv16 [hv2.size] fun v3 hv17 =>
        ∃ r2 : Int, v3 = .int .i64 r2 ∧
        callX Try.prog 188 #[.pointer gP, .int .i64 v] hv17 [hv2.size] fun v4 hv18 =>
        ∃ ra : Int, ∃ rb : Int, v4 = .tuple #[.int .i64 ra, .int .i64 rb] ∧
        R (.tuple #[.int .i64 x10, .int .i64 0]) hv18)))
theorem calls191 {h : Heap} {R : Value → Heap → Prop} (gP : Option Addr) (v : Int) (H : S191 gP v h R) : CallsH Try.prog 191 #[.pointer gP, .int .i64 v] h R := by
  have e : S191 gP v h R = FX (envX [8, 9, 57] 115) { loops := [(0, ⟨[0, 1], [6, 7], [], []⟩)], joins := [(54, ⟨[0, 1, 7], [6], [], []⟩), (77, ⟨[0, 1, 6, 9], [10], [9], []⟩), (94, ⟨[0, 1, 9, 11], [], [9], []⟩)], blocks := [], draws := [(14, ⟨11, false⟩), (18, ⟨10, false⟩)] } Try.f191 (Try.f191.body.getD .skip) [.pointer gP, .int .i64 v] h R := by kernel_rfl
  exact calls_of_FX (envX_ok _ _) Try.func191 (by kernel_rfl) (by kernel_rfl) (by kernel_rfl) (e ▸ H)
/-- (*tracery/traceryref4.Graph).Unsplit -/
def Ok191v (nodesV : List Int) (edgesV : List (Int × Int × Int)) (nodeV : Int) (edgeIDV : Int) (lastV : Int) (v : Int) (R : List Int → List (Int × Int × Int) → Int → Int → Int → Int → Int → Prop) : Prop :=
  ∀ (h : Heap) (gB2 : Nat) (nodesVA : Option Addr) (nodesVL nodesVC : Nat) (edgesVA : Option Addr) (edgesVL edgesVC : Nat) (marksVA : Option Addr) (marksVL marksVC : Nat), Hp h [Ck.ob gB2 155 [.slice nodesVA nodesVL nodesVC, .slice edgesVA edgesVL edgesVC, .int .i64 nodeV, .int .i64 edgeIDV, .slice marksVA marksVL marksVC, .int .i64 lastV], Ck.sl eI 3 nodesVA nodesVL nodesVC nodesV, Ck.sl e3 239 edgesVA edgesVL edgesVC edgesV] → CallsH Try.prog 191 #[.pointer (some ⟨gB2, 0, none⟩), .int .i64 v] h fun v h' => ∃ (nodesVA2 : Option Addr) (nodesVL2 nodesVC2 : Nat) (nodesV1 : List Int) (edgesVA2 : Option Addr) (edgesVL2 edgesVC2 : Nat) (edgesV1 : List (Int × Int × Int)) (nodeV2 : Int) (edgeIDV2 : Int) (lastV2 : Int) (raV : Int) (rbV : Int), Sy h (owns [Ck.ob gB2 155 [.slice nodesVA nodesVL nodesVC, .slice edgesVA edgesVL edgesVC, .int .i64 nodeV, .int .i64 edgeIDV, .slice marksVA marksVL marksVC, .int .i64 lastV], Ck.sl eI 3 nodesVA nodesVL nodesVC nodesV, Ck.sl e3 239 edgesVA edgesVL edgesVC edgesV]) h' [Ck.ob gB2 155 [.slice nodesVA2 nodesVL2 nodesVC2, .slice edgesVA2 edgesVL2 edgesVC2, .int .i64 nodeV2, .int .i64 edgeIDV2, .slice marksVA marksVL marksVC, .int .i64 lastV2], Ck.sl eI 3 nodesVA2 nodesVL2 nodesVC2 nodesV1, Ck.sl e3 239 edgesVA2 edgesVL2 edgesVC2 edgesV1] ∧ v = .tuple #[.int .i64 raV, .int .i64 rbV] ∧ R nodesV1 edgesV1 nodeV2 edgeIDV2 lastV2 raV rbV
theorem Ok191v.mono {nodesV edgesV nodeV edgeIDV lastV v} {R R' : List Int → List (Int × Int × Int) → Int → Int → Int → Int → Int → Prop} (H : Ok191v nodesV edgesV nodeV edgeIDV lastV v R) (kz : ∀ nodesV1 edgesV1 nodeV2 edgeIDV2 lastV2 raV rbV, R nodesV1 edgesV1 nodeV2 edgeIDV2 lastV2 raV rbV → R' nodesV1 edgesV1 nodeV2 edgeIDV2 lastV2 raV rbV) : Ok191v nodesV edgesV nodeV edgeIDV lastV v R' :=
  fun h gB2 nodesVA nodesVL nodesVC edgesVA edgesVL edgesVC marksVA marksVL marksVC hp => (H h gB2 nodesVA nodesVL nodesVC edgesVA edgesVL edgesVC marksVA marksVL marksVC hp).mono fun _ _ ⟨nodesVA2, nodesVL2, nodesVC2, nodesV1, edgesVA2, edgesVL2, edgesVC2, edgesV1, nodeV2, edgeIDV2, lastV2, raV, rbV, P, e, q⟩ => ⟨nodesVA2, nodesVL2, nodesVC2, nodesV1, edgesVA2, edgesVL2, edgesVC2, edgesV1, nodeV2, edgeIDV2, lastV2, raV, rbV, P, e, kz _ _ _ _ _ _ _ q⟩
def T191v (nodesV : List Int) (edgesV : List (Int × Int × Int)) (nodeV : Int) (edgeIDV : Int) (lastV : Int) (v : Int) (R : List Int → List (Int × Int × Int) → Int → Int → Int → Int → Int → Prop) : Prop :=
  Ok219v nodesV edgesV nodeV edgeIDV lastV v (fun r =>
  cnd (decide (r < (0 : Int)))
    (R nodesV edgesV nodeV edgeIDV lastV 0 2)
    (∃ (Iv : List Int → Int → Prop) (m : List Int → Int → Nat), Iv ([] : List Int) 0 ∧
    ∀ atv : List Int, ∀ i : Int, Iv atv i →
    cnd (decide (i < ((edgesV.length : Nat) : Int)))
      (0 ≤ i ∧ i < ((edgesV.length : Nat) : Int) ∧ ∀ x_2 : (Int × Int × Int), edgesV[(Int.toNat i)]? = some x_2 → ∃ Jv_2 : Prop,
      ( cnd (x_2.2.1 == v)
         (cnd (x_2.2.2 == v)
           (R nodesV edgesV nodeV edgeIDV lastV 0 10)
           (Jv_2))
         (Jv_2)) ∧
      (Jv_2 →
      cnd (x_2.2.1 == v)
        ((atv.length + 1) < 1000000000000 ∧ Iv (atv ++ [i]) (IntKind.i64.wrap (i + (1 : Int))) ∧ m (atv ++ [i]) (IntKind.i64.wrap (i + (1 : Int))) < m atv i)
        (∃ Jv : List Int → Prop,
        ( cnd (x_2.2.2 == v)
           ((atv.length + 1) < 1000000000000 ∧ Jv (atv ++ [i]))
           (Jv atv)) ∧
        ∀ atv_2 : List Int, Jv atv_2 →
        Iv atv_2 (IntKind.i64.wrap (i + (1 : Int))) ∧ m atv_2 (IntKind.i64.wrap (i + (1 : Int))) < m atv i)))
      (cnd (((atv.length : Nat) : Int) != (2 : Int))
        (R nodesV edgesV nodeV edgeIDV lastV 0 10)
        (0 ≤ (1 : Int) ∧ (1 : Int) < ((atv.length : Nat) : Int) ∧ ∀ atv_3 : Int, atv[(Int.toNat (1 : Int))]? = some atv_3 → 0 ≤ atv_3 ∧ atv_3 < ((edgesV.length : Nat) : Int) ∧ ∀ x_3 : (Int × Int × Int), edgesV[(Int.toNat atv_3)]? = some x_3 → ∃ Jv2 : Int → Prop,
        ( cnd (x_3.2.1 == v)
           (Jv2 x_3.2.2)
           (Jv2 x_3.2.1)) ∧
        ∀ far : Int, Jv2 far →
        0 ≤ (0 : Int) ∧ (0 : Int) < ((atv.length : Nat) : Int) ∧ ∀ atv_4 : Int, atv[(Int.toNat (0 : Int))]? = some atv_4 → 0 ≤ atv_4 ∧ atv_4 < ((edgesV.length : Nat) : Int) ∧ ∀ x_4 : (Int × Int × Int), edgesV[(Int.toNat atv_4)]? = some x_4 → ∃ Jv3 : List (Int × Int × Int) → Prop,
        ( cnd (x_4.2.1 == v)
           (Jv3 (edgesV.set (Int.toNat atv_4) (x_4.1, far, x_4.2.2)))
           (Jv3 (edgesV.set (Int.toNat atv_4) (x_4.1, x_4.2.1, far)))) ∧
        ∀ edgesV_2 : List (Int × Int × Int), Jv3 edgesV_2 →
        ∀ x_5 : (Int × Int × Int), edgesV_2[(Int.toNat atv_4)]? = some x_5 → Ok189v nodesV edgesV_2 nodeV edgeIDV lastV x_3.1 (fun nodesV1_2 edgesV1_2 nodeV2_2 edgeIDV2_2 lastV2_2 r2 =>
        Ok188v nodesV1_2 edgesV1_2 nodeV2_2 edgeIDV2_2 lastV2_2 v (fun nodesV1_3 edgesV1_3 nodeV2_3 edgeIDV2_3 lastV2_3 ra rb =>
        R nodesV1_3 edgesV1_3 nodeV2_3 edgeIDV2_3 lastV2_3 x_5.1 0))))))
theorem ok191v {nodesV edgesV nodeV edgeIDV lastV v} {R : List Int → List (Int × Int × Int) → Int → Int → Int → Int → Int → Prop} (T : T191v nodesV edgesV nodeV edgeIDV lastV v R) : Ok191v nodesV edgesV nodeV edgeIDV lastV v R := by
  intro h gB2 nodesVA nodesVL nodesVC edgesVA edgesVL edgesVC marksVA marksVL marksVC H
  have Y : Sy h (owns [Ck.ob gB2 155 [.slice nodesVA nodesVL nodesVC, .slice edgesVA edgesVL edgesVC, .int .i64 nodeV, .int .i64 edgeIDV, .slice marksVA marksVL marksVC, .int .i64 lastV], Ck.sl eI 3 nodesVA nodesVL nodesVC nodesV, Ck.sl e3 239 edgesVA edgesVL edgesVC edgesV]) h _ := Sy.startM H rfl
  obtain rfl := Y.lenS 1 rfl
  obtain rfl := Y.lenS 2 rfl
  apply calls191
  unfold S191
  unfold T191v at T
  refine callX_sy (T _ _ _ _ _ _ _ _ _ _ _ _ ((((Y.turn 0 rfl To.obvob).turn 1 rfl To.slvw).turn 2 rfl To.slvw).pick [0, 1, 2] rfl).hp) (fun _ _ ⟨_, p, _⟩ => p.fr) alln ?_
  rintro v2 hv ⟨r, PP, rfl, T⟩
  have Y : Sy _ _ hv [_, _, _] := Y.gr PP.fr
  clear PP
  refine ⟨r, rfl, ?_⟩
  refine cnd_imp T (fun T => ?_) (fun T => ?_)
  · exact ⟨_, _, _, _, _, _, _, _, _, _, _, _, _, Y.pick [0, 1, 2] rfl, rfl, T⟩
  · have Y : Sy _ _ _ [_, _, _, _] := Y.nilS eI 3
    obtain ⟨Iv, m, T0, T1⟩ := T
    obtain ⟨B, hB, YB⟩ := Y.cut [3] [0, 1, 2] rfl
    obtain ⟨JJ, hJJ⟩ : ∃ JJ : Nat → List Value → Heap → Prop, JJ = (fun k lz h' => ∃ (atA : Option Addr) (atL atC : Nat) (atv : List Int) (i : Int), lz = [.slice atA atL atC, .int .i64 i] ∧ Sy h (owns [Ck.ob gB2 155 [.slice nodesVA nodesV.length nodesVC, .slice edgesVA edgesV.length edgesVC, .int .i64 nodeV, .int .i64 edgeIDV, .slice marksVA marksVL marksVC, .int .i64 lastV], Ck.sl eI 3 nodesVA nodesV.length nodesVC nodesV, Ck.sl e3 239 edgesVA edgesV.length edgesVC edgesV]) h' ([Ck.sl eI 3 atA atL atC atv] ++ B) ∧ Iv atv i ∧ m atv i = k) := ⟨_, rfl⟩
    refine ⟨fun lz h' => ∃ k, JJ k lz h', Lm JJ, ?_, ?_⟩
    · subst hJJ hB
      exact ⟨_, _, _, _, _, _, rfl, YB, T0, rfl⟩
    · clear YB T0 Y
      intro atA atL atC i hv2 hI
      obtain ⟨k, hI, hm⟩ := loopIn hI
      subst hJJ hB
      obtain ⟨atA, atL, atC, atv, i, e, Y, T, rfl⟩ := hI
      cases e
      obtain rfl := Y.lenS 0 rfl
      replace T := T1 atv i T
      have Y : Sy _ _ _ [_, _, _, _] := Y
      refine ⟨gB2, 0, rfl, ?_⟩
      refine ⟨_, _, _, Y.cellO 1 rfl 1 rfl, ?_⟩
      refine cnd_imp T (fun T => ?_) (fun T => ?_)
      · refine ⟨gB2, 0, rfl, ?_⟩
        refine ⟨_, _, _, Y.cellO 1 rfl 1 rfl, ?_⟩
        obtain ⟨q, q_2, T⟩ := T
        obtain ⟨b_2, hb, ho, x_2, hx⟩ := Y.atS 3 rfl q q_2
        refine ⟨b_2, 0, hb, q, q_2, ?_⟩
        replace T := T x_2 hx
        refine ⟨_, Y.cellS 3 rfl hb (t := 0) hx rfl, ?_⟩
        refine ⟨_, Y.cellS 3 rfl hb (t := 1) hx rfl, ?_⟩
        refine ⟨_, Y.cellS 3 rfl hb (t := 2) hx rfl, ?_⟩
        intro hv3
        have Y : Sy _ _ hv3 [_, _, _, _, _] := Y.junk _
        clear_value hv3
        intro hv4
        have Y : Sy _ _ hv4 [_, _, _, _, _] := (((Y.stJ 4 rfl _ _).stJ 4 rfl _ _).stJ 4 rfl _ _)
        clear_value hv4
        obtain ⟨Jv_2, T0, T1⟩ := T
        obtain ⟨B_2, hB_2, _⟩ := Y.cut [] [0, 1, 2, 3, 4] rfl
        intro K
        have hK : ∀  (hv5 : Heap), (Sy h (owns [Ck.ob gB2 155 [.slice nodesVA nodesV.length nodesVC, .slice edgesVA edgesV.length edgesVC, .int .i64 nodeV, .int .i64 edgeIDV, .slice marksVA marksVL marksVC, .int .i64 lastV], Ck.sl eI 3 nodesVA nodesV.length nodesVC nodesV, Ck.sl e3 239 edgesVA edgesV.length edgesVC edgesV]) hv5 ([] ++ B_2) ∧ Jv_2) → K hv5 := by
          subst hB_2
          clear T0 Y
          rintro hv5 ⟨Y, T⟩
          replace T := T1 T
          have Y : Sy _ _ _ [_, _, _, _, _] := Y
          unfold K
          refine cnd_imp T (fun T => ?_) (fun T => ?_)
          · intro hv6
            have Y : Sy _ _ hv6 [_, _, _, _, _, _] := Y.junk _
            clear_value hv6
            obtain ⟨q_3, T⟩ := T
            refine ⟨_, Y.ownS 0 rfl, (allc (Y.nJ 0 5 rfl rfl rfl) (allc (Y.nJ 0 4 rfl rfl rfl) alln)), by first | exact appB q_3 (by decide) | omega, by first | exact appM q_3 | (simp [maxLen]; omega), ?_⟩
            intro sA sC hv7 ow fA gA gB
            have Y : Sy _ _ hv7 [_, _, _, _, _, _] := Y.appS 0 rfl ([i] : List Int) ow fA gA rfl rfl
            exact loopBack hm ⟨_, _, _, _, _, rfl, Y.pick [0, 1, 2, 3] rfl, T.1, rfl⟩ T.2
          · obtain ⟨Jv, T0, T1⟩ := T
            obtain ⟨B_3, hB_3, _⟩ := Y.cut [] [1, 2, 3, 4] rfl
            refine ⟨fun lz h' => ∃ (atA2 : Option Addr) (atL2 atC2 : Nat) (atv_2 : List Int), lz = [.slice atA2 atL2 atC2] ∧ Sy h (owns [Ck.ob gB2 155 [.slice nodesVA nodesV.length nodesVC, .slice edgesVA edgesV.length edgesVC, .int .i64 nodeV, .int .i64 edgeIDV, .slice marksVA marksVL marksVC, .int .i64 lastV], Ck.sl eI 3 nodesVA nodesV.length nodesVC nodesV, Ck.sl e3 239 edgesVA edgesV.length edgesVC edgesV]) h' ([Ck.sl eI 3 atA2 atL2 atC2 atv_2] ++ B_3) ∧ Jv atv_2, ?_, ?_⟩
            · subst hB_3
              replace T := T0
              clear T0 T1
              refine cnd_imp T (fun T => ?_) (fun T => ?_)
              · intro hv8
                have Y : Sy _ _ hv8 [_, _, _, _, _, _] := Y.junk _
                clear_value hv8
                obtain ⟨q_4, T⟩ := T
                refine ⟨_, Y.ownS 0 rfl, (allc (Y.nJ 0 5 rfl rfl rfl) (allc (Y.nJ 0 4 rfl rfl rfl) alln)), by first | exact appB q_4 (by decide) | omega, by first | exact appM q_4 | (simp [maxLen]; omega), ?_⟩
                intro sA2 sC2 hv9 ow fA gA gB
                have Y : Sy _ _ hv9 [_, _, _, _, _, _] := Y.appS 0 rfl ([i] : List Int) ow fA gA rfl rfl
                exact ⟨_, _, _, _, rfl, Y.pick [0, 1, 2, 3, 4] rfl, T⟩
              · exact ⟨_, _, _, _, rfl, Y.pick [0, 1, 2, 3, 4] rfl, T⟩
            · subst hB_3
              clear T0 Y
              rintro atA2 atL2 atC2 hv10 ⟨atA2, atL2, atC2, atv_2, e, Y, T⟩
              cases e
              obtain rfl := Y.lenS 0 rfl
              replace T := T1 atv_2 T
              have Y : Sy _ _ _ [_, _, _, _, _] := Y
              exact loopBack hm ⟨_, _, _, _, _, rfl, Y.pick [0, 1, 2, 3] rfl, T.1, rfl⟩ T.2
        subst hB_2
        replace T := T0
        clear T0 T1
        refine cnd_imp T (fun T => ?_) (fun T => ?_)
        · refine cnd_imp T (fun T => ?_) (fun T => ?_)
          · exact ⟨_, _, _, _, _, _, _, _, _, _, _, _, _, Y.pick [1, 2, 3] rfl, rfl, T⟩
          · exact hK _ ⟨Y.pick [0, 1, 2, 3, 4] rfl, T⟩
        · exact hK _ ⟨Y.pick [0, 1, 2, 3, 4] rfl, T⟩
      · refine cnd_imp T (fun T => ?_) (fun T => ?_)
        · exact ⟨_, _, _, _, _, _, _, _, _, _, _, _, _, Y.pick [1, 2, 3] rfl, rfl, T⟩
        · have Y0 := Y
          have F : Fr [] hv2 hv2 := Fr.refl _ _
          refine ⟨gB2, 0, rfl, ?_⟩
          refine ⟨_, _, _, Y0.cellO 1 rfl 1 rfl, ?_⟩
          obtain ⟨q_5, q_6, T⟩ := T
          obtain ⟨b_3, hb_2, ho_2, atv_3, hx_2⟩ := Y0.atS 0 rfl q_5 q_6
          refine ⟨b_3, 0, hb_2, q_5, q_6, ?_⟩
          replace T := T atv_3 hx_2
          refine ⟨_, Y0.cellS 0 rfl hb_2 (t := 0) hx_2 rfl, ?_⟩
          obtain ⟨q_7, q_8, T⟩ := T
          obtain ⟨b_4, hb_3, ho_3, x_3, hx_3⟩ := Y0.atS 3 rfl q_7 q_8
          refine ⟨b_4, 0, hb_3, q_7, q_8, ?_⟩
          replace T := T x_3 hx_3
          refine ⟨_, Y0.cellS 3 rfl hb_3 (t := 0) hx_3 rfl, ?_⟩
          refine ⟨_, Y0.cellS 3 rfl hb_3 (t := 1) hx_3 rfl, ?_⟩
          refine ⟨_, Y0.cellS 3 rfl hb_3 (t := 2) hx_3 rfl, ?_⟩
          intro hv11
          have Y : Sy _ _ hv11 [_, _, _, _, _] := Y.junk _
          have F : Fr _ _ hv11 := F.pushr _
          have fshv11 := F.size
          clear_value hv11
          refine ⟨F, ?_⟩
          intro hv12
          have Y : Sy _ _ hv12 [_, _, _, _, _] := (((Y.stJ 4 rfl _ _).stJ 4 rfl _ _).stJ 4 rfl _ _)
          clear_value hv12
          obtain ⟨Jv2, T0, T1⟩ := T
          obtain ⟨B_4, hB_4, _⟩ := Y.cut [] [0, 1, 2, 3, 4] rfl
          refine ⟨fun lz h' => ∃ (far : Int), lz = [.int .i64 far] ∧ Sy h (owns [Ck.ob gB2 155 [.slice nodesVA nodesV.length nodesVC, .slice edgesVA edgesV.length edgesVC, .int .i64 nodeV, .int .i64 edgeIDV, .slice marksVA marksVL marksVC, .int .i64 lastV], Ck.sl eI 3 nodesVA nodesV.length nodesVC nodesV, Ck.sl e3 239 edgesVA edgesV.length edgesVC edgesV]) h' ([] ++ B_4) ∧ Jv2 far, ?_, ?_⟩
          · subst hB_4
            replace T := T0
            clear T0 T1
            refine cnd_imp T (fun T => ?_) (fun T => ?_)
            · exact ⟨_, rfl, Y.pick [0, 1, 2, 3, 4] rfl, T⟩
            · exact ⟨_, rfl, Y.pick [0, 1, 2, 3, 4] rfl, T⟩
          · subst hB_4
            clear T0 Y
            rintro far hv13 ⟨far, e, Y, T⟩
            cases e
            replace T := T1 far T
            have Y : Sy _ _ _ [_, _, _, _, _] := Y
            have Y0 := Y
            have F : Fr [] hv13 hv13 := Fr.refl _ _
            refine ⟨gB2, 0, rfl, ?_⟩
            refine ⟨_, _, _, Y0.cellO 1 rfl 1 rfl, ?_⟩
            obtain ⟨q_9, q_10, T⟩ := T
            obtain ⟨b_5, hb_4, ho_4, atv_4, hx_4⟩ := Y0.atS 0 rfl q_9 q_10
            refine ⟨b_5, 0, hb_4, q_9, q_10, ?_⟩
            replace T := T atv_4 hx_4
            refine ⟨_, Y0.cellS 0 rfl hb_4 (t := 0) hx_4 rfl, ?_⟩
            obtain ⟨q_11, q_12, T⟩ := T
            obtain ⟨b_6, hb_5, ho_5, x_4, hx_5⟩ := Y0.atS 3 rfl q_11 q_12
            refine ⟨b_6, 0, hb_5, q_11, q_12, ?_⟩
            replace T := T x_4 hx_5
            refine ⟨_, Y.cellS 3 rfl hb_5 (t := 1) hx_5 rfl, ?_⟩
            obtain ⟨Jv3, T0, T1⟩ := T
            obtain ⟨B_5, hB_5, _⟩ := Y.cut [] [0, 1, 2, 4] rfl
            obtain ⟨F, hF⟩ := Y.fnS (k := 3) rfl
            refine ⟨fun lz h' => ∃ (edgesV_2 : List (Int × Int × Int)), lz = [] ∧ Sy h (owns [Ck.ob gB2 155 [.slice nodesVA nodesV.length nodesVC, .slice edgesVA edgesV.length edgesVC, .int .i64 nodeV, .int .i64 edgeIDV, .slice marksVA marksVL marksVC, .int .i64 lastV], Ck.sl eI 3 nodesVA nodesV.length nodesVC nodesV, Ck.sl e3 239 edgesVA edgesV.length edgesVC edgesV]) h' ([F edgesV_2] ++ B_5) ∧ Jv3 edgesV_2, ?_, ?_⟩
            · subst hB_5 hF
              replace T := T0
              clear T0 T1
              refine cnd_imp T (fun T => ?_) (fun T => ?_)
              · refine ⟨(Y.neJ 3 4 rfl rfl rfl ho_5), Y.cellEx 3 rfl hb_5 (t := 1) (by omega) (by decide), Y.freeS 3 rfl hb_5 _, ?_⟩
                intro hv14
                have Y : Sy _ _ hv14 [_, _, _, _, _] := Y.stS 3 rfl hb_5 (t := 1) (x_4.1, far, x_4.2.2) hx_5 (by decide) rfl
                clear_value hv14
                exact ⟨_, rfl, Y.pick [3, 0, 1, 2, 4] rfl, T⟩
              · refine ⟨(Y.neJ 3 4 rfl rfl rfl ho_5), Y.cellEx 3 rfl hb_5 (t := 2) (by omega) (by decide), Y.freeS 3 rfl hb_5 _, ?_⟩
                intro hv15
                have Y : Sy _ _ hv15 [_, _, _, _, _] := Y.stS 3 rfl hb_5 (t := 2) (x_4.1, x_4.2.1, far) hx_5 (by decide) rfl
                clear_value hv15
                exact ⟨_, rfl, Y.pick [3, 0, 1, 2, 4] rfl, T⟩
            · subst hB_5 hF
              clear T0 Y
              rintro hv16 ⟨edgesV_2, e, Y, T⟩
              cases e
              replace T := T1 edgesV_2 T
              have Y : Sy _ _ _ [_, _, _, _, _] := Y
              obtain ⟨_, _, _, x_5, hx_6⟩ := Y.atS 0 rfl q_11 q_12
              replace T := T x_5 hx_6
              refine ⟨_, Y.cellS 0 rfl hb_5 (t := 0) hx_6 rfl, ?_⟩
              refine callX_sy (T _ _ _ _ _ _ _ _ _ _ _ (Y.pick [2, 3, 0] rfl).hp) (fun _ _ ⟨_, _, _, _, _, _, _, _, _, _, _, _, p, _⟩ => p.fr) (allc (Y.nO 4 [2, 3, 0] rfl rfl) alln) ?_
              rintro v3 hv17 ⟨nodesVA2_2, nodesVL2_2, nodesVC2_2, nodesV1_2, edgesVA2_2, edgesVL2_2, edgesVC2_2, edgesV1_2, nodeV2_2, edgeIDV2_2, lastV2_2, r2, PP, rfl, T⟩
              have Y : Sy _ _ hv17 [_, _, _, _, _] := Y.call2 [2, 3, 0, 1, 4] rfl (A := [_, _, _]) rfl rfl PP ⟨rfl, ⟨rfl, ⟨rfl, trivial⟩⟩⟩
              clear PP
              obtain rfl := Y.lenS 1 rfl
              obtain rfl := Y.lenS 2 rfl
              refine ⟨r2, rfl, ?_⟩
              refine callX_sy (T _ _ _ _ _ _ _ _ _ _ _ (Y.pick [0, 1, 2] rfl).hp) (fun _ _ ⟨_, _, _, _, _, _, _, _, _, _, _, _, _, p, _⟩ => p.fr) (allc (Y.nO 4 [0, 1, 2] rfl rfl) alln) ?_
              rintro v4 hv18 ⟨nodesVA2_3, nodesVL2_3, nodesVC2_3, nodesV1_3, edgesVA2_3, edgesVL2_3, edgesVC2_3, edgesV1_3, nodeV2_3, edgeIDV2_3, lastV2_3, ra, rb, PP, rfl, T⟩
              have Y : Sy _ _ hv18 [_, _, _, _, _] := Y.call2 [0, 1, 2, 3, 4] rfl (A := [_, _, _]) rfl rfl PP ⟨rfl, ⟨rfl, ⟨rfl, trivial⟩⟩⟩
              clear PP
              obtain rfl := Y.lenS 1 rfl
              obtain rfl := Y.lenS 2 rfl
              refine ⟨ra, rb, rfl, ?_⟩
              exact ⟨_, _, _, _, _, _, _, _, _, _, _, _, _, Y.pick [0, 1, 2] rfl, rfl, T⟩
/-- (*tracery/traceryref4.Graph).Move -/
def S192 (gP : Option Addr) (ev : Int) (endv : Int) (v : Int) (h : Heap) (R : Value → Heap → Prop) : Prop :=
  callX Try.prog 221 #[.pointer gP, .int .i64 ev] h [] fun v2 hv =>
  ∃ r : Int, v2 = .int .i64 r ∧
  let K := fun (hv3 : Heap) =>
    (R (.int .i64 2) hv3)
  cnd (decide (r < (0 : Int)))
    (K hv)
    (callX Try.prog 219 #[.pointer gP, .int .i64 v] hv [] fun v3 hv2 =>
    ∃ r2 : Int, v3 = .int .i64 r2 ∧
    cnd (decide (r2 < (0 : Int)))
      (K hv2)
      (cnd (decide (endv < (0 : Int)))
        (K hv2)
        (cnd (decide (endv > (1 : Int)))
          (R (.int .i64 2) hv2)
          (∃ Jv : List Value → Heap → Prop, -- join 30 []
          ( cnd (endv == (0 : Int))
             (∃ b o, gP = some ⟨b, o, none⟩ ∧ ∃ (xA : Option Addr) (xL xC : Nat), hcell hv2 b (o + 1) = some (.slice xA xL xC) ∧ ∃ b2 o2, xA = some ⟨b2, o2, none⟩ ∧ 0 ≤ r ∧ r < (xL : Nat) ∧ (∃ u, hcell hv2 b2 ((o2 + (Int.toNat r) * 3) + 1) = some u) ∧ hfree hv2 b2 ((o2 + (Int.toNat r) * 3) + 1) = true ∧ let hv4 : Heap := hset hv2 b2 ((o2 + (Int.toNat r) * 3) + 1) (.int .i64 v)
             Jv [] hv4)
             (∃ b3 o3, gP = some ⟨b3, o3, none⟩ ∧ ∃ (xA2 : Option Addr) (xL2 xC2 : Nat), hcell hv2 b3 (o3 + 1) = some (.slice xA2 xL2 xC2) ∧ ∃ b4 o4, xA2 = some ⟨b4, o4, none⟩ ∧ 0 ≤ r ∧ r < (xL2 : Nat) ∧ (∃ u, hcell hv2 b4 ((o4 + (Int.toNat r) * 3) + 2) = some u) ∧ hfree hv2 b4 ((o4 + (Int.toNat r) * 3) + 2) = true ∧ let hv5 : Heap := hset hv2 b4 ((o4 + (Int.toNat r) * 3) + 2) (.int .i64 v)
             Jv [] hv5)) ∧
          ∀ hv6, Jv [] hv6 →
          R (.int .i64 0) hv6))))
theorem calls192 {h : Heap} {R : Value → Heap → Prop} (gP : Option Addr) (ev : Int) (endv : Int) (v : Int) (H : S192 gP ev endv v h R) : CallsH Try.prog 192 #[.pointer gP, .int .i64 ev, .int .i64 endv, .int .i64 v] h R := by
  have e : S192 gP ev endv v h R = FX (envX [] 49) { loops := [], joins := [(30, ⟨[], [], [], []⟩)], blocks := [], draws := [] } Try.f192 (Try.f192.body.getD .skip) [.pointer gP, .int .i64 ev, .int .i64 endv, .int .i64 v] h R := by kernel_rfl
  exact calls_of_FX (envX_ok _ _) Try.func192 (by kernel_rfl) (by kernel_rfl) (by kernel_rfl) (e ▸ H)
/-- (*tracery/traceryref4.Graph).Move -/
def Ok192v (nodesV : List Int) (edgesV : List (Int × Int × Int)) (nodeV : Int) (edgeIDV : Int) (lastV : Int) (ev : Int) (endv : Int) (v : Int) (R : List Int → List (Int × Int × Int) → Int → Int → Int → Int → Prop) : Prop :=
  ∀ (h : Heap) (gB2 : Nat) (nodesVA : Option Addr) (nodesVL nodesVC : Nat) (edgesVA : Option Addr) (edgesVL edgesVC : Nat) (marksVA : Option Addr) (marksVL marksVC : Nat), Hp h [Ck.ob gB2 155 [.slice nodesVA nodesVL nodesVC, .slice edgesVA edgesVL edgesVC, .int .i64 nodeV, .int .i64 edgeIDV, .slice marksVA marksVL marksVC, .int .i64 lastV], Ck.sl eI 3 nodesVA nodesVL nodesVC nodesV, Ck.sl e3 239 edgesVA edgesVL edgesVC edgesV] → CallsH Try.prog 192 #[.pointer (some ⟨gB2, 0, none⟩), .int .i64 ev, .int .i64 endv, .int .i64 v] h fun v h' => ∃ (nodesVA2 : Option Addr) (nodesVL2 nodesVC2 : Nat) (nodesV1 : List Int) (edgesVA2 : Option Addr) (edgesVL2 edgesVC2 : Nat) (edgesV1 : List (Int × Int × Int)) (nodeV2 : Int) (edgeIDV2 : Int) (lastV2 : Int) (rV : Int), Sy h (owns [Ck.ob gB2 155 [.slice nodesVA nodesVL nodesVC, .slice edgesVA edgesVL edgesVC, .int .i64 nodeV, .int .i64 edgeIDV, .slice marksVA marksVL marksVC, .int .i64 lastV], Ck.sl eI 3 nodesVA nodesVL nodesVC nodesV, Ck.sl e3 239 edgesVA edgesVL edgesVC edgesV]) h' [Ck.ob gB2 155 [.slice nodesVA2 nodesVL2 nodesVC2, .slice edgesVA2 edgesVL2 edgesVC2, .int .i64 nodeV2, .int .i64 edgeIDV2, .slice marksVA marksVL marksVC, .int .i64 lastV2], Ck.sl eI 3 nodesVA2 nodesVL2 nodesVC2 nodesV1, Ck.sl e3 239 edgesVA2 edgesVL2 edgesVC2 edgesV1] ∧ v = .int .i64 rV ∧ R nodesV1 edgesV1 nodeV2 edgeIDV2 lastV2 rV
theorem Ok192v.mono {nodesV edgesV nodeV edgeIDV lastV ev endv v} {R R' : List Int → List (Int × Int × Int) → Int → Int → Int → Int → Prop} (H : Ok192v nodesV edgesV nodeV edgeIDV lastV ev endv v R) (kz : ∀ nodesV1 edgesV1 nodeV2 edgeIDV2 lastV2 rV, R nodesV1 edgesV1 nodeV2 edgeIDV2 lastV2 rV → R' nodesV1 edgesV1 nodeV2 edgeIDV2 lastV2 rV) : Ok192v nodesV edgesV nodeV edgeIDV lastV ev endv v R' :=
  fun h gB2 nodesVA nodesVL nodesVC edgesVA edgesVL edgesVC marksVA marksVL marksVC hp => (H h gB2 nodesVA nodesVL nodesVC edgesVA edgesVL edgesVC marksVA marksVL marksVC hp).mono fun _ _ ⟨nodesVA2, nodesVL2, nodesVC2, nodesV1, edgesVA2, edgesVL2, edgesVC2, edgesV1, nodeV2, edgeIDV2, lastV2, rV, P, e, q⟩ => ⟨nodesVA2, nodesVL2, nodesVC2, nodesV1, edgesVA2, edgesVL2, edgesVC2, edgesV1, nodeV2, edgeIDV2, lastV2, rV, P, e, kz _ _ _ _ _ _ q⟩
def T192v (nodesV : List Int) (edgesV : List (Int × Int × Int)) (nodeV : Int) (edgeIDV : Int) (lastV : Int) (ev : Int) (endv : Int) (v : Int) (R : List Int → List (Int × Int × Int) → Int → Int → Int → Int → Prop) : Prop :=
  Ok221v nodesV edgesV nodeV edgeIDV lastV ev (fun r =>
  ∃ Jv_2 : Prop,
  ( cnd (decide (r < (0 : Int)))
     (Jv_2)
     (Ok219v nodesV edgesV nodeV edgeIDV lastV v (fun r2 =>
     cnd (decide (r2 < (0 : Int)))
       (Jv_2)
       (cnd (decide (endv < (0 : Int)))
         (Jv_2)
         (cnd (decide (endv > (1 : Int)))
           (R nodesV edgesV nodeV edgeIDV lastV 2)
           (∃ Jv : List (Int × Int × Int) → Prop,
           ( cnd (endv == (0 : Int))
              (0 ≤ r ∧ r < ((edgesV.length : Nat) : Int) ∧ ∀ x : (Int × Int × Int), edgesV[(Int.toNat r)]? = some x → Jv (edgesV.set (Int.toNat r) (x.1, v, x.2.2)))
              (0 ≤ r ∧ r < ((edgesV.length : Nat) : Int) ∧ ∀ x_2 : (Int × Int × Int), edgesV[(Int.toNat r)]? = some x_2 → Jv (edgesV.set (Int.toNat r) (x_2.1, x_2.2.1, v)))) ∧
           ∀ edgesV_2 : List (Int × Int × Int), Jv edgesV_2 →
           R nodesV edgesV_2 nodeV edgeIDV lastV 0)))))) ∧
  (Jv_2 →
  R nodesV edgesV nodeV edgeIDV lastV 2))
theorem ok192v {nodesV edgesV nodeV edgeIDV lastV ev endv v} {R : List Int → List (Int × Int × Int) → Int → Int → Int → Int → Prop} (T : T192v nodesV edgesV nodeV edgeIDV lastV ev endv v R) : Ok192v nodesV edgesV nodeV edgeIDV lastV ev endv v R := by
  intro h gB2 nodesVA nodesVL nodesVC edgesVA edgesVL edgesVC marksVA marksVL marksVC H
  have Y : Sy h (owns [Ck.ob gB2 155 [.slice nodesVA nodesVL nodesVC, .slice edgesVA edgesVL edgesVC, .int .i64 nodeV, .int .i64 edgeIDV, .slice marksVA marksVL marksVC, .int .i64 lastV], Ck.sl eI 3 nodesVA nodesVL nodesVC nodesV, Ck.sl e3 239 edgesVA edgesVL edgesVC edgesV]) h _ := Sy.startM H rfl
  obtain rfl := Y.lenS 1 rfl
  obtain rfl := Y.lenS 2 rfl
  apply calls192
  unfold S192
  unfold T192v at T
  refine callX_sy (T _ _ _ _ _ _ _ _ _ _ _ _ ((((Y.turn 0 rfl To.obvob).turn 1 rfl To.slvw).turn 2 rfl To.slvw).pick [0, 1, 2] rfl).hp) (fun _ _ ⟨_, p, _⟩ => p.fr) alln ?_
  rintro v2 hv ⟨r, PP, rfl, T⟩
  have Y : Sy _ _ hv [_, _, _] := Y.gr PP.fr
  clear PP
  refine ⟨r, rfl, ?_⟩
  obtain ⟨Jv_2, T0, T1⟩ := T
  obtain ⟨B, hB, _⟩ := Y.cut [] [0, 1, 2] rfl
  intro K
  have hK : ∀  (hv3 : Heap), (Sy h (owns [Ck.ob gB2 155 [.slice nodesVA nodesV.length nodesVC, .slice edgesVA edgesV.length edgesVC, .int .i64 nodeV, .int .i64 edgeIDV, .slice marksVA marksVL marksVC, .int .i64 lastV], Ck.sl eI 3 nodesVA nodesV.length nodesVC nodesV, Ck.sl e3 239 edgesVA edgesV.length edgesVC edgesV]) hv3 ([] ++ B) ∧ Jv_2) → K hv3 := by
    subst hB
    clear T0 Y
    rintro hv3 ⟨Y, T⟩
    replace T := T1 T
    have Y : Sy _ _ _ [_, _, _] := Y
    unfold K
    exact ⟨_, _, _, _, _, _, _, _, _, _, _, _, Y.pick [0, 1, 2] rfl, rfl, T⟩
  subst hB
  replace T := T0
  clear T0 T1
  refine cnd_imp T (fun T => ?_) (fun T => ?_)
  · exact hK _ ⟨Y.pick [0, 1, 2] rfl, T⟩
  · refine callX_sy (T _ _ _ _ _ _ _ _ _ _ _ _ ((((Y.turn 0 rfl To.obvob).turn 1 rfl To.slvw).turn 2 rfl To.slvw).pick [0, 1, 2] rfl).hp) (fun _ _ ⟨_, p, _⟩ => p.fr) alln ?_
    rintro v3 hv2 ⟨r2, PP, rfl, T⟩
    have Y : Sy _ _ hv2 [_, _, _] := Y.gr PP.fr
    clear PP
    refine ⟨r2, rfl, ?_⟩
    refine cnd_imp T (fun T => ?_) (fun T => ?_)
    · exact hK _ ⟨Y.pick [0, 1, 2] rfl, T⟩
    · refine cnd_imp T (fun T => ?_) (fun T => ?_)
      · exact hK _ ⟨Y.pick [0, 1, 2] rfl, T⟩
      · refine cnd_imp T (fun T => ?_) (fun T => ?_)
        · exact ⟨_, _, _, _, _, _, _, _, _, _, _, _, Y.pick [0, 1, 2] rfl, rfl, T⟩
        · obtain ⟨Jv, T0, T1⟩ := T
          obtain ⟨B_2, hB_2, _⟩ := Y.cut [] [1] rfl
          obtain ⟨F, hF⟩ := Y.fnO (k := 0) [1] rfl
          refine ⟨fun lz h' => ∃ (cA : Option Addr) (cL cC : Nat) (edgesV_2 : List (Int × Int × Int)), lz = [] ∧ Sy h (owns [Ck.ob gB2 155 [.slice nodesVA nodesV.length nodesVC, .slice edgesVA edgesV.length edgesVC, .int .i64 nodeV, .int .i64 edgeIDV, .slice marksVA marksVL marksVC, .int .i64 lastV], Ck.sl eI 3 nodesVA nodesV.length nodesVC nodesV, Ck.sl e3 239 edgesVA edgesV.length edgesVC edgesV]) h' ([F [.slice cA cL cC], Ck.sl e3 239 cA cL cC edgesV_2] ++ B_2) ∧ Jv edgesV_2, ?_, ?_⟩
          · subst hB_2 hF
            replace T := T0
            clear T0 T1
            refine cnd_imp T (fun T => ?_) (fun T => ?_)
            · refine ⟨gB2, 0, rfl, ?_⟩
              refine ⟨_, _, _, Y.cellO 0 rfl 1 rfl, ?_⟩
              obtain ⟨q, q_2, T⟩ := T
              obtain ⟨b_2, hb, ho, x, hx⟩ := Y.atS 2 rfl q q_2
              refine ⟨b_2, 0, hb, q, q_2, ?_⟩
              replace T := T x hx
              refine ⟨Y.cellEx 2 rfl hb (t := 1) (by omega) (by decide), Y.freeS 2 rfl hb _, ?_⟩
              intro hv4
              have Y : Sy _ _ hv4 [_, _, _] := Y.stS 2 rfl hb (t := 1) (x.1, v, x.2.2) hx (by decide) rfl
              clear_value hv4
              exact ⟨_, _, _, _, rfl, Y.pick [0, 2, 1] rfl, T⟩
            · refine ⟨gB2, 0, rfl, ?_⟩
              refine ⟨_, _, _, Y.cellO 0 rfl 1 rfl, ?_⟩
              obtain ⟨q_3, q_4, T⟩ := T
              obtain ⟨b_3, hb_2, ho_2, x_2, hx_2⟩ := Y.atS 2 rfl q_3 q_4
              refine ⟨b_3, 0, hb_2, q_3, q_4, ?_⟩
              replace T := T x_2 hx_2
              refine ⟨Y.cellEx 2 rfl hb_2 (t := 2) (by omega) (by decide), Y.freeS 2 rfl hb_2 _, ?_⟩
              intro hv5
              have Y : Sy _ _ hv5 [_, _, _] := Y.stS 2 rfl hb_2 (t := 2) (x_2.1, x_2.2.1, v) hx_2 (by decide) rfl
              clear_value hv5
              exact ⟨_, _, _, _, rfl, Y.pick [0, 2, 1] rfl, T⟩
          · subst hB_2 hF
            clear T0 Y
            rintro hv6 ⟨cA, cL, cC, edgesV_2, e, Y, T⟩
            cases e
            obtain rfl := Y.lenS 1 rfl
            replace T := T1 edgesV_2 T
            have Y : Sy _ _ _ [_, _, _] := Y
            exact ⟨_, _, _, _, _, _, _, _, _, _, _, _, Y.pick [0, 2, 1] rfl, rfl, T⟩
/-- (*tracery/traceryref4.Graph).Ends -/
def S193 (gP : Option Addr) (ev : Int) (h : Heap) (R : Value → Heap → Prop) : Prop :=
  callX Try.prog 221 #[.pointer gP, .int .i64 ev] h [] fun v hv =>
  ∃ r : Int, v = .int .i64 r ∧
  cnd (decide (r < (0 : Int)))
    (R (.tuple #[.int .i64 0, .int .i64 0, .int .i64 2]) hv)
    (∃ b o, gP = some ⟨b, o, none⟩ ∧ ∃ (xA : Option Addr) (xL xC : Nat), hcell hv b (o + 1) = some (.slice xA xL xC) ∧ ∃ b2 o2, xA = some ⟨b2, o2, none⟩ ∧ 0 ≤ r ∧ r < (xL : Nat) ∧ ∃ x : Int, hcell hv b2 ((o2 + (Int.toNat r) * 3) + 1) = some (.int .i64 x) ∧ ∃ b3 o3, gP = some ⟨b3, o3, none⟩ ∧ ∃ (xA2 : Option Addr) (xL2 xC2 : Nat), hcell hv b3 (o3 + 1) = some (.slice xA2 xL2 xC2) ∧ ∃ b4 o4, xA2 = some ⟨b4, o4, none⟩ ∧ 0 ≤ r ∧ r < (xL2 : Nat) ∧ ∃ x2 : Int, hcell hv b4 ((o4 + (Int.toNat r) * 3) + 2) = some (.int .i64 x2) ∧ R (.tuple #[.int .i64 x, .int .i64 x2, .int .i64 0]) hv)
theorem calls193 {h : Heap} {R : Value → Heap → Prop} (gP : Option Addr) (ev : Int) (H : S193 gP ev h R) : CallsH Try.prog 193 #[.pointer gP, .int .i64 ev] h R := by
  have e : S193 gP ev h R = FX (envX [] 31) { loops := [], joins := [], blocks := [], draws := [(4, ⟨21, false⟩)] } Try.f193 (Try.f193.body.getD .skip) [.pointer gP, .int .i64 ev] h R := by kernel_rfl
  exact calls_of_FX (envX_ok _ _) Try.func193 (by kernel_rfl) (by kernel_rfl) (by kernel_rfl) (e ▸ H)
/-- (*tracery/traceryref4.Graph).Ends -/
def Ok193v (nodesV : List Int) (edgesV : List (Int × Int × Int)) (nodeV : Int) (edgeIDV : Int) (lastV : Int) (ev : Int) (R : Int → Int → Int → Prop) : Prop :=
  ∀ (h : Heap) (gB2 gO : Nat) (nodesVA : Option Addr) (nodesVL nodesVC : Nat) (edgesVA : Option Addr) (edgesVL edgesVC : Nat) (marksVA : Option Addr) (marksVL marksVC : Nat), Hp h [Ck.vob gB2 gO [.slice nodesVA nodesVL nodesVC, .slice edgesVA edgesVL edgesVC, .int .i64 nodeV, .int .i64 edgeIDV, .slice marksVA marksVL marksVC, .int .i64 lastV], Ck.vw eI nodesVA nodesVL nodesVC nodesV, Ck.vw e3 edgesVA edgesVL edgesVC edgesV] → CallsH Try.prog 193 #[.pointer (some ⟨gB2, gO, none⟩), .int .i64 ev] h fun v h' => ∃ (raV : Int) (rbV : Int) (rcV : Int), Sy h [] h' [] ∧ v = .tuple #[.int .i64 raV, .int .i64 rbV, .int .i64 rcV] ∧ R raV rbV rcV
theorem Ok193v.mono {nodesV edgesV nodeV edgeIDV lastV ev} {R R' : Int → Int → Int → Prop} (H : Ok193v nodesV edgesV nodeV edgeIDV lastV ev R) (kz : ∀ raV rbV rcV, R raV rbV rcV → R' raV rbV rcV) : Ok193v nodesV edgesV nodeV edgeIDV lastV ev R' :=
  fun h gB2 gO nodesVA nodesVL nodesVC edgesVA edgesVL edgesVC marksVA marksVL marksVC hp => (H h gB2 gO nodesVA nodesVL nodesVC edgesVA edgesVL edgesVC marksVA marksVL marksVC hp).mono fun _ _ ⟨raV, rbV, rcV, P, e, q⟩ => ⟨raV, rbV, rcV, P, e, kz _ _ _ q⟩
def T193v (nodesV : List Int) (edgesV : List (Int × Int × Int)) (nodeV : Int) (edgeIDV : Int) (lastV : Int) (ev : Int) (R : Int → Int → Int → Prop) : Prop :=
  Ok221v nodesV edgesV nodeV edgeIDV lastV ev (fun r =>
  cnd (decide (r < (0 : Int)))
    (R 0 0 2)
    (0 ≤ r ∧ r < ((edgesV.length : Nat) : Int) ∧ ∀ x_2 : (Int × Int × Int), edgesV[(Int.toNat r)]? = some x_2 → R x_2.2.1 x_2.2.2 0))
theorem ok193v {nodesV edgesV nodeV edgeIDV lastV ev} {R : Int → Int → Int → Prop} (T : T193v nodesV edgesV nodeV edgeIDV lastV ev R) : Ok193v nodesV edgesV nodeV edgeIDV lastV ev R := by
  intro h gB2 gO nodesVA nodesVL nodesVC edgesVA edgesVL edgesVC marksVA marksVL marksVC H
  have Y : Sy h [] h _ := Sy.startM H rfl
  obtain rfl := Y.lenV 1 rfl
  obtain rfl := Y.lenV 2 rfl
  apply calls193
  unfold S193
  unfold T193v at T
  refine callX_sy (T _ _ _ _ _ _ _ _ _ _ _ _ (Y.pick [0, 1, 2] rfl).hp) (fun _ _ ⟨_, p, _⟩ => p.fr) alln ?_
  rintro v hv ⟨r, PP, rfl, T⟩
  have Y : Sy _ _ hv [_, _, _] := Y.gr PP.fr
  clear PP
  refine ⟨r, rfl, ?_⟩
  refine cnd_imp T (fun T => ?_) (fun T => ?_)
  · exact ⟨_, _, _, Y.pick [] rfl, rfl, T⟩
  · have Y0 := Y
    have F : Fr [] hv hv := Fr.refl _ _
    refine ⟨gB2, gO, rfl, ?_⟩
    refine ⟨_, _, _, Y0.cellW 0 rfl 1 rfl, ?_⟩
    obtain ⟨q, q_2, T⟩ := T
    obtain ⟨b_2, o_2, hb, hr, x_2, hx⟩ := Y0.atV 2 rfl q q_2
    refine ⟨b_2, o_2, hb, q, q_2, ?_⟩
    replace T := T x_2 hx
    refine ⟨_, Y0.cellV 2 rfl hb (t := 1) hx rfl, ?_⟩
    refine ⟨gB2, gO, rfl, ?_⟩
    refine ⟨_, _, _, Y0.cellW 0 rfl 1 rfl, ?_⟩
    refine ⟨b_2, o_2, hb, q, q_2, ?_⟩
    refine ⟨_, Y0.cellV 2 rfl hb (t := 2) hx rfl, ?_⟩
    exact ⟨_, _, _, Y.pick [] rfl, rfl, T⟩
/-- (*tracery/traceryref4.Graph).Edges -/
def S222 (gP : Option Addr) (v : Int) (h : Heap) (R : Value → Heap → Prop) : Prop :=
  ∃ (Iv : List Value → Heap → Prop) (m : List Value → Heap → Nat), Iv [.slice none 0 0, .int .i64 0] h ∧ -- loop 0: ['l', 'i']
  ∀ (lA : Option Addr) (lL lC : Nat), ∀ i : Int, ∀ hv, Iv [.slice lA lL lC, .int .i64 i] hv →
  ∃ b o, gP = some ⟨b, o, none⟩ ∧ ∃ (xA : Option Addr) (xL xC : Nat), hcell hv b (o + 1) = some (.slice xA xL xC) ∧ cnd (decide (i < ((xL : Nat) : Int)))
    (∃ b2 o2, gP = some ⟨b2, o2, none⟩ ∧ ∃ (xA2 : Option Addr) (xL2 xC2 : Nat), hcell hv b2 (o2 + 1) = some (.slice xA2 xL2 xC2) ∧ ∃ b3 o3, xA2 = some ⟨b3, o3, none⟩ ∧ 0 ≤ i ∧ i < (xL2 : Nat) ∧ ∃ x : Int, hcell hv b3 ((o3 + (Int.toNat i) * 3) + 1) = some (.int .i64 x) ∧ cnd (x == v)
      (∃ b6 o6, gP = some ⟨b6, o6, none⟩ ∧ ∃ (xA4 : Option Addr) (xL4 xC4 : Nat), hcell hv b6 (o6 + 1) = some (.slice xA4 xL4 xC4) ∧ ∃ b7 o7, xA4 = some ⟨b7, o7, none⟩ ∧ 0 ≤ i ∧ i < (xL4 : Nat) ∧ ∃ x3 : Int, hcell hv b7 (o7 + (Int.toNat i) * 3) = some (.int .i64 x3) ∧ let hv2 : Heap := hv.push (.cells #[.int .i64 x3] 3)
      ∃ old, Ownd hv2 3 1 lA lL lC old ∧ (∀ b ∈ ([hv.size] : List Nat), b ∉ blkOf lA) ∧ (lL + 1) * 8 ≤ 140737488355328 ∧ (lL + 1) ≤ maxLen ∧
      ∀ sA sC hv3, Ownd hv3 3 1 sA (lL + 1) sC (old ++ [.int .i64 x3]) → Fr (blkOf lA) hv2 hv3 → ((sA = lA ∧ sC = lC) ∨ ∃ g, sA = some ⟨g, 0, none⟩ ∧ hv2.size ≤ g) → (lC < (lL + 1) → Fr [] hv2 hv3) →
      Iv [.slice sA (lL + 1) sC, .int .i64 (IntKind.i64.wrap (i + (1 : Int)))] hv3 ∧ m [.slice sA (lL + 1) sC, .int .i64 (IntKind.i64.wrap (i + (1 : Int)))] hv3 < m [.slice lA lL lC, .int .i64 i] hv)
      (∃ b4 o4, gP = some ⟨b4, o4, none⟩ ∧ ∃ (xA3 : Option Addr) (xL3 xC3 : Nat), hcell hv b4 (o4 + 1) = some (.slice xA3 xL3 xC3) ∧ ∃ b5 o5, xA3 = some ⟨b5, o5, none⟩ ∧ 0 ≤ i ∧ i < (xL3 : Nat) ∧ ∃ x2 : Int, hcell hv b5 ((o5 + (Int.toNat i) * 3) + 2) = some (.int .i64 x2) ∧ ∃ Jv : List Value → Heap → Prop, -- join 40 ['l']
      ( cnd (x2 == v)
         (∃ b8 o8, gP = some ⟨b8, o8, none⟩ ∧ ∃ (xA5 : Option Addr) (xL5 xC5 : Nat), hcell hv b8 (o8 + 1) = some (.slice xA5 xL5 xC5) ∧ ∃ b9 o9, xA5 = some ⟨b9, o9, none⟩ ∧ 0 ≤ i ∧ i < (xL5 : Nat) ∧ ∃ x4 : Int, hcell hv b9 (o9 + (Int.toNat i) * 3) = some (.int .i64 x4) ∧ let hv4 : Heap := hv.push (.cells #[.int .i64 x4] 3)
         ∃ old2, Ownd hv4 3 1 lA lL lC old2 ∧ (∀ b ∈ ([hv.size] : List Nat), b ∉ blkOf lA) ∧ (lL + 1) * 8 ≤ 140737488355328 ∧ (lL + 1) ≤ maxLen ∧
         ∀ sA2 sC2 hv5, Ownd hv5 3 1 sA2 (lL + 1) sC2 (old2 ++ [.int .i64 x4]) → Fr (blkOf lA) hv4 hv5 → ((sA2 = lA ∧ sC2 = lC) ∨ ∃ g, sA2 = some ⟨g, 0, none⟩ ∧ hv4.size ≤ g) → (lC < (lL + 1) → Fr [] hv4 hv5) →
         Jv [.slice sA2 (lL + 1) sC2] hv5)
         (Jv [.slice lA lL lC] hv)) ∧
      ∀ (lA2 : Option Addr) (lL2 lC2 : Nat), ∀ hv6, Jv [.slice lA2 lL2 lC2] hv6 →
      Iv [.slice lA2 lL2 lC2, .int .i64 (IntKind.i64.wrap (i + (1 : Int)))] hv6 ∧ m [.slice lA2 lL2 lC2, .int .i64 (IntKind.i64.wrap (i + (1 : Int)))] hv6 < m [.slice lA lL lC, .int .i64 i] hv))
    (R (.slice lA lL lC) hv)
theorem calls222 {h : Heap} {R : Value → Heap → Prop} (gP : Option Addr) (v : Int) (H : S222 gP v h R) : CallsH Try.prog 222 #[.pointer gP, .int .i64 v] h R := by
  have e : S222 gP v h R = FX (envX [51] 54) { loops := [(0, ⟨[0, 1], [5, 6], [], []⟩)], joins := [(40, ⟨[0, 1, 6], [5], [], []⟩)], blocks := [], draws := [] } Try.f222 (Try.f222.body.getD .skip) [.pointer gP, .int .i64 v] h R := by kernel_rfl
  exact calls_of_FX (envX_ok _ _) Try.func222 (by kernel_rfl) (by kernel_rfl) (by kernel_rfl) (e ▸ H)
/-- (*tracery/traceryref4.Graph).Edges -/
def Ok222v (nodesV : List Int) (edgesV : List (Int × Int × Int)) (nodeV : Int) (edgeIDV : Int) (lastV : Int) (v : Int) (R : List Int → Prop) : Prop :=
  ∀ (h : Heap) (gB2 gO : Nat) (nodesVA : Option Addr) (nodesVL nodesVC : Nat) (edgesVA : Option Addr) (edgesVL edgesVC : Nat) (marksVA : Option Addr) (marksVL marksVC : Nat), Hp h [Ck.vob gB2 gO [.slice nodesVA nodesVL nodesVC, .slice edgesVA edgesVL edgesVC, .int .i64 nodeV, .int .i64 edgeIDV, .slice marksVA marksVL marksVC, .int .i64 lastV], Ck.vw eI nodesVA nodesVL nodesVC nodesV, Ck.vw e3 edgesVA edgesVL edgesVC edgesV] → CallsH Try.prog 222 #[.pointer (some ⟨gB2, gO, none⟩), .int .i64 v] h fun v h' => ∃ (rVA : Option Addr) (rVL rVC : Nat) (rV : List Int), Sy h [] h' [Ck.sl eI 3 rVA rVL rVC rV] ∧ v = .slice rVA rVL rVC ∧ R rV
theorem Ok222v.mono {nodesV edgesV nodeV edgeIDV lastV v} {R R' : List Int → Prop} (H : Ok222v nodesV edgesV nodeV edgeIDV lastV v R) (kz : ∀ rV, R rV → R' rV) : Ok222v nodesV edgesV nodeV edgeIDV lastV v R' :=
  fun h gB2 gO nodesVA nodesVL nodesVC edgesVA edgesVL edgesVC marksVA marksVL marksVC hp => (H h gB2 gO nodesVA nodesVL nodesVC edgesVA edgesVL edgesVC marksVA marksVL marksVC hp).mono fun _ _ ⟨rVA, rVL, rVC, rV, P, e, q⟩ => ⟨rVA, rVL, rVC, rV, P, e, kz _ q⟩
def T222v (nodesV : List Int) (edgesV : List (Int × Int × Int)) (nodeV : Int) (edgeIDV : Int) (lastV : Int) (v : Int) (R : List Int → Prop) : Prop :=
  ∃ (Iv : List Int → Int → Prop) (m : List Int → Int → Nat), Iv ([] : List Int) 0 ∧
  ∀ l : List Int, ∀ i : Int, Iv l i →
  cnd (decide (i < ((edgesV.length : Nat) : Int)))
    (0 ≤ i ∧ i < ((edgesV.length : Nat) : Int) ∧ ∀ x_2 : (Int × Int × Int), edgesV[(Int.toNat i)]? = some x_2 → cnd (x_2.2.1 == v)
      ((l.length + 1) < 1000000000000 ∧ Iv (l ++ [x_2.1]) (IntKind.i64.wrap (i + (1 : Int))) ∧ m (l ++ [x_2.1]) (IntKind.i64.wrap (i + (1 : Int))) < m l i)
      (∃ Jv : List Int → Prop,
      ( cnd (x_2.2.2 == v)
         ((l.length + 1) < 1000000000000 ∧ Jv (l ++ [x_2.1]))
         (Jv l)) ∧
      ∀ l_2 : List Int, Jv l_2 →
      Iv l_2 (IntKind.i64.wrap (i + (1 : Int))) ∧ m l_2 (IntKind.i64.wrap (i + (1 : Int))) < m l i))
    (R l)
theorem ok222v {nodesV edgesV nodeV edgeIDV lastV v} {R : List Int → Prop} (T : T222v nodesV edgesV nodeV edgeIDV lastV v R) : Ok222v nodesV edgesV nodeV edgeIDV lastV v R := by
  intro h gB2 gO nodesVA nodesVL nodesVC edgesVA edgesVL edgesVC marksVA marksVL marksVC H
  have Y : Sy h [] h _ := Sy.startM H rfl
  obtain rfl := Y.lenV 1 rfl
  obtain rfl := Y.lenV 2 rfl
  apply calls222
  unfold S222
  unfold T222v at T
  have Y : Sy _ _ _ [_, _, _, _] := Y.nilS eI 3
  obtain ⟨Iv, m, T0, T1⟩ := T
  obtain ⟨B, hB, YB⟩ := Y.cut [3] [0, 1, 2] rfl
  obtain ⟨JJ, hJJ⟩ : ∃ JJ : Nat → List Value → Heap → Prop, JJ = (fun k lz h' => ∃ (lA : Option Addr) (lL lC : Nat) (l : List Int) (i : Int), lz = [.slice lA lL lC, .int .i64 i] ∧ Sy h [] h' ([Ck.sl eI 3 lA lL lC l] ++ B) ∧ Iv l i ∧ m l i = k) := ⟨_, rfl⟩
  refine ⟨fun lz h' => ∃ k, JJ k lz h', Lm JJ, ?_, ?_⟩
  · subst hJJ hB
    exact ⟨_, _, _, _, _, _, rfl, YB, T0, rfl⟩
  · clear YB T0 Y
    intro lA lL lC i hv hI
    obtain ⟨k, hI, hm⟩ := loopIn hI
    subst hJJ hB
    obtain ⟨lA, lL, lC, l, i, e, Y, T, rfl⟩ := hI
    cases e
    obtain rfl := Y.lenS 0 rfl
    replace T := T1 l i T
    have Y : Sy _ _ _ [_, _, _, _] := Y
    refine ⟨gB2, gO, rfl, ?_⟩
    refine ⟨_, _, _, Y.cellW 1 rfl 1 rfl, ?_⟩
    refine cnd_imp T (fun T => ?_) (fun T => ?_)
    · refine ⟨gB2, gO, rfl, ?_⟩
      refine ⟨_, _, _, Y.cellW 1 rfl 1 rfl, ?_⟩
      obtain ⟨q, q_2, T⟩ := T
      obtain ⟨b_2, o_2, hb, hr, x_2, hx⟩ := Y.atV 3 rfl q q_2
      refine ⟨b_2, o_2, hb, q, q_2, ?_⟩
      replace T := T x_2 hx
      refine ⟨_, Y.cellV 3 rfl hb (t := 1) hx rfl, ?_⟩
      refine cnd_imp T (fun T => ?_) (fun T => ?_)
      · refine ⟨gB2, gO, rfl, ?_⟩
        refine ⟨_, _, _, Y.cellW 1 rfl 1 rfl, ?_⟩
        refine ⟨b_2, o_2, hb, q, q_2, ?_⟩
        refine ⟨_, Y.cellV 3 rfl hb (t := 0) hx rfl, ?_⟩
        intro hv2
        have Y : Sy _ _ hv2 [_, _, _, _, _] := Y.junk _
        clear_value hv2
        obtain ⟨q_3, T⟩ := T
        refine ⟨_, Y.ownS 0 rfl, (allc (Y.nJ 0 4 rfl rfl rfl) alln), by first | exact appB q_3 (by decide) | omega, by first | exact appM q_3 | (simp [maxLen]; omega), ?_⟩
        intro sA sC hv3 ow fA gA gB
        have Y : Sy _ _ hv3 [_, _, _, _, _] := Y.appS 0 rfl ([x_2.1] : List Int) ow fA gA rfl rfl
        exact loopBack hm ⟨_, _, _, _, _, rfl, Y.pick [0, 1, 2, 3] rfl, T.1, rfl⟩ T.2
      · refine ⟨gB2, gO, rfl, ?_⟩
        refine ⟨_, _, _, Y.cellW 1 rfl 1 rfl, ?_⟩
        refine ⟨b_2, o_2, hb, q, q_2, ?_⟩
        refine ⟨_, Y.cellV 3 rfl hb (t := 2) hx rfl, ?_⟩
        obtain ⟨Jv, T0, T1⟩ := T
        obtain ⟨B_2, hB_2, _⟩ := Y.cut [] [1, 2, 3] rfl
        refine ⟨fun lz h' => ∃ (lA2 : Option Addr) (lL2 lC2 : Nat) (l_2 : List Int), lz = [.slice lA2 lL2 lC2] ∧ Sy h [] h' ([Ck.sl eI 3 lA2 lL2 lC2 l_2] ++ B_2) ∧ Jv l_2, ?_, ?_⟩
        · subst hB_2
          replace T := T0
          clear T0 T1
          refine cnd_imp T (fun T => ?_) (fun T => ?_)
          · refine ⟨gB2, gO, rfl, ?_⟩
            refine ⟨_, _, _, Y.cellW 1 rfl 1 rfl, ?_⟩
            refine ⟨b_2, o_2, hb, q, q_2, ?_⟩
            refine ⟨_, Y.cellV 3 rfl hb (t := 0) hx rfl, ?_⟩
            intro hv4
            have Y : Sy _ _ hv4 [_, _, _, _, _] := Y.junk _
            clear_value hv4
            obtain ⟨q_4, T⟩ := T
            refine ⟨_, Y.ownS 0 rfl, (allc (Y.nJ 0 4 rfl rfl rfl) alln), by first | exact appB q_4 (by decide) | omega, by first | exact appM q_4 | (simp [maxLen]; omega), ?_⟩
            intro sA2 sC2 hv5 ow fA gA gB
            have Y : Sy _ _ hv5 [_, _, _, _, _] := Y.appS 0 rfl ([x_2.1] : List Int) ow fA gA rfl rfl
            exact ⟨_, _, _, _, rfl, Y.pick [0, 1, 2, 3] rfl, T⟩
          · exact ⟨_, _, _, _, rfl, Y.pick [0, 1, 2, 3] rfl, T⟩
        · subst hB_2
          clear T0 Y
          rintro lA2 lL2 lC2 hv6 ⟨lA2, lL2, lC2, l_2, e, Y, T⟩
          cases e
          obtain rfl := Y.lenS 0 rfl
          replace T := T1 l_2 T
          have Y : Sy _ _ _ [_, _, _, _] := Y
          exact loopBack hm ⟨_, _, _, _, _, rfl, Y.pick [0, 1, 2, 3] rfl, T.1, rfl⟩ T.2
    · exact ⟨_, _, _, _, Y.pick [0] rfl, rfl, T⟩
end Go.Proofs.Ytmcloipjlihhlaa.N
