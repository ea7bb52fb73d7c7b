/- Functions: what is left to be shown of each, over memory and without: printed by program, tied to the loaded functions by the kernel. Conditions: none. -/
import Derived.Test.YtmcloipjlihhlaaSEnv
import Derived.Test.YtmcloipjlihhlaaYMore
import Derived.Test.YtmcloipjlihhlaaTWalk
namespace Go.Proofs.Ytmcloipjlihhlaa.N
open Go.Proofs.Ytmcloipjlihhlaa
open Go.X
set_option maxRecDepth 100000
set_option linter.unusedVariables false
set_option linter.unusedSimpArgs false
set_option maxHeartbeats 2000000

/-- (*tracery/walk.lay).up -/
def S218 (lP : Option Addr) (tA : Option Addr) (tL tC : Nat) (tA2 : Option Addr) (tL2 tC2 : Nat) (tA3 : Option Addr) (tL3 tC3 : Nat) (tA4 : Option Addr) (tL4 tC4 : Nat) (v : Int) (h : Heap) (R : Value → Heap → Prop) : Prop :=
  let hv : Heap := h.push (.cells #[.slice tA tL tC, .slice tA2 tL2 tC2, .slice tA3 tL3 tC3, .slice tA4 tL4 tC4] 113)
  ∃ (Iv : List Value → Heap → Prop) (m : List Value → Heap → Nat), Iv [.int .i64 v, .slice none 0 0] hv ∧ -- loop 0: ['v', 'out']
  ∀ v2 : Int, ∀ (outA : Option Addr) (outL outC : Nat), ∀ hv2, Iv [.int .i64 v2, .slice outA outL outC] hv2 →
  ∃ b o, tA2 = some ⟨b, o, none⟩ ∧ 0 ≤ v2 ∧ v2 < (tL2 : Nat) ∧ ∃ x : Int, hcell hv2 b (o + (Int.toNat v2) * 1) = some (.int .i64 x) ∧ cnd (decide (x ≥ (0 : Int)))
    (∃ b2 o2, tA2 = some ⟨b2, o2, none⟩ ∧ 0 ≤ v2 ∧ v2 < (tL2 : Nat) ∧ ∃ x2 : Int, hcell hv2 b2 (o2 + (Int.toNat v2) * 1) = some (.int .i64 x2) ∧ let hv3 : Heap := hv2.push (.cells #[.int .i64 (bits .xor .i64 x2 (1 : Int))] 3)
    ∃ old, Ownd hv3 3 1 outA outL outC old ∧ (∀ b ∈ ([hv2.size, h.size] : List Nat), b ∉ blkOf outA) ∧ (outL + 1) * 8 ≤ 140737488355328 ∧ (outL + 1) ≤ maxLen ∧
    ∀ sA sC hv4, Ownd hv4 3 1 sA (outL + 1) sC (old ++ [.int .i64 (bits .xor .i64 x2 (1 : Int))]) → Fr (blkOf outA) hv3 hv4 → ((sA = outA ∧ sC = outC) ∨ ∃ g, sA = some ⟨g, 0, none⟩ ∧ hv3.size ≤ g) → (outC < (outL + 1) → Fr [] hv3 hv4) →
    ∃ b3 o3, tA2 = some ⟨b3, o3, none⟩ ∧ 0 ≤ v2 ∧ v2 < (tL2 : Nat) ∧ ∃ x3 : Int, hcell hv4 b3 (o3 + (Int.toNat v2) * 1) = some (.int .i64 x3) ∧ callX Try.prog 180 #[.pointer lP, .int .i64 (bits .xor .i64 x3 (1 : Int))] hv4 [hv2.size, h.size] fun v3 hv5 =>
    ∃ r : Int, v3 = .int .i64 r ∧
    Iv [.int .i64 r, .slice sA (outL + 1) sC] hv5 ∧ m [.int .i64 r, .slice sA (outL + 1) sC] hv5 < m [.int .i64 v2, .slice outA outL outC] hv2)
    (R (.slice outA outL outC) hv2)
theorem calls218 {h : Heap} {R : Value → Heap → Prop} (lP : Option Addr) (tA : Option Addr) (tL tC : Nat) (tA2 : Option Addr) (tL2 tC2 : Nat) (tA3 : Option Addr) (tL3 tC3 : Nat) (tA4 : Option Addr) (tL4 tC4 : Nat) (v : Int) (H : S218 lP tA tL tC tA2 tL2 tC2 tA3 tL3 tC3 tA4 tL4 tC4 v h R) : CallsH Try.prog 218 #[.pointer lP, .agg #[.slice tA tL tC, .slice tA2 tL2 tC2, .slice tA3 tL3 tC3, .slice tA4 tL4 tC4], .int .i64 v] h R := by
  have e : S218 lP tA tL tC tA2 tL2 tC2 tA3 tL3 tC3 tA4 tL4 tC4 v h R = FX (envX [4, 21] 32) { loops := [(0, ⟨[0, 4], [2, 7], [4], []⟩)], joins := [], blocks := [], draws := [] } Try.f218 (Try.f218.body.getD .skip) [.pointer lP, .agg #[.slice tA tL tC, .slice tA2 tL2 tC2, .slice tA3 tL3 tC3, .slice tA4 tL4 tC4], .int .i64 v] h R := by kernel_rfl
  exact calls_of_FX (envX_ok _ _) Try.func218 (by kernel_rfl) (by kernel_rfl) (by kernel_rfl) (e ▸ H)
/-- (*tracery/walk.lay).up -/
def Ok218 (nV : Int) (edgesV : List (Int × Int)) (outV : List (List Int)) (orderV : List Int) (byV : List Int) (farV : List Int) (lowV : List Int) (v : Int) (R : List Int → Prop) : Prop :=
  ∀ (h : Heap) (lB lO : Nat) (edgesVA : Option Addr) (edgesVL edgesVC : Nat) (outVA : Option Addr) (outVL outVC : Nat) (outH : List RowH) (tA : Option Addr) (tL tC : Nat) (tA2 : Option Addr) (tL2 tC2 : Nat) (tA3 : Option Addr) (tL3 tC3 : Nat) (tA4 : Option Addr) (tL4 tC4 : Nat), Hp h [Ck.vob lB lO [.int .i64 nV, .slice edgesVA edgesVL edgesVC, .slice outVA outVL outVC], Ck.vw eP edgesVA edgesVL edgesVC edgesV, Ck.vrows eI outVA outVL outVC outH outV, Ck.vw eI tA tL tC orderV, Ck.vw eI tA2 tL2 tC2 byV, Ck.vw eI tA3 tL3 tC3 farV, Ck.vw eI tA4 tL4 tC4 lowV] → CallsH Try.prog 218 #[.pointer (some ⟨lB, lO, none⟩), .agg #[.slice tA tL tC, .slice tA2 tL2 tC2, .slice tA3 tL3 tC3, .slice tA4 tL4 tC4], .int .i64 v] h fun v h' => ∃ (rVA : Option Addr) (rVL rVC : Nat) (rV : List Int), Sy h [] h' [Ck.sl eI 3 rVA rVL rVC rV] ∧ v = .slice rVA rVL rVC ∧ R rV
theorem Ok218.mono {nV edgesV outV orderV byV farV lowV v} {R R' : List Int → Prop} (H : Ok218 nV edgesV outV orderV byV farV lowV v R) (kz : ∀ rV, R rV → R' rV) : Ok218 nV edgesV outV orderV byV farV lowV v R' :=
  fun h lB lO edgesVA edgesVL edgesVC outVA outVL outVC outH tA tL tC tA2 tL2 tC2 tA3 tL3 tC3 tA4 tL4 tC4 hp => (H h lB lO edgesVA edgesVL edgesVC outVA outVL outVC outH tA tL tC tA2 tL2 tC2 tA3 tL3 tC3 tA4 tL4 tC4 hp).mono fun _ _ ⟨rVA, rVL, rVC, rV, P, e, q⟩ => ⟨rVA, rVL, rVC, rV, P, e, kz _ q⟩
def T218 (nV : Int) (edgesV : List (Int × Int)) (outV : List (List Int)) (orderV : List Int) (byV : List Int) (farV : List Int) (lowV : List Int) (v : Int) (R : List Int → Prop) : Prop :=
  ∃ (Iv : Int → List Int → Prop) (m : Int → List Int → Nat), Iv v ([] : List Int) ∧
  ∀ v2 : Int, ∀ outv : List Int, Iv v2 outv →
  0 ≤ v2 ∧ v2 < ((byV.length : Nat) : Int) ∧ ∀ t : Int, byV[(Int.toNat v2)]? = some t → cnd (decide (t ≥ (0 : Int)))
    ((outv.length + 1) < 1000000000000 ∧ Ok180 nV edgesV outV (bits .xor .i64 t (1 : Int)) (fun r =>
    Iv r (outv ++ [(bits .xor .i64 t (1 : Int))]) ∧ m r (outv ++ [(bits .xor .i64 t (1 : Int))]) < m v2 outv))
    (R outv)
theorem ok218 {nV edgesV outV orderV byV farV lowV v} {R : List Int → Prop} (T : T218 nV edgesV outV orderV byV farV lowV v R) : Ok218 nV edgesV outV orderV byV farV lowV v R := by
  intro h lB lO edgesVA edgesVL edgesVC outVA outVL outVC outH tA tL tC tA2 tL2 tC2 tA3 tL3 tC3 tA4 tL4 tC4 H
  have Y : Sy h [] h _ := Sy.startM H rfl
  obtain rfl := Y.lenV 1 rfl
  obtain rfl := Y.lenW 2 rfl
  obtain rfl := Y.lenV 3 rfl
  obtain rfl := Y.lenV 4 rfl
  obtain rfl := Y.lenV 5 rfl
  obtain rfl := Y.lenV 6 rfl
  apply calls218
  unfold S218
  unfold T218 at T
  intro hv
  have Y : Sy _ _ hv [_, _, _, _, _, _, _, _] := Y.junk _
  clear_value hv
  have Y : Sy _ _ _ [_, _, _, _, _, _, _, _, _] := Y.nilS eI 3
  obtain ⟨Iv, m, T0, T1⟩ := T
  obtain ⟨B, hB, YB⟩ := Y.cut [8] [0, 1, 2, 3, 4, 5, 6, 7] rfl
  obtain ⟨JJ, hJJ⟩ : ∃ JJ : Nat → List Value → Heap → Prop, JJ = (fun k lz h' => ∃ (v2 : Int) (outA : Option Addr) (outL outC : Nat) (outv : List Int), lz = [.int .i64 v2, .slice outA outL outC] ∧ Sy h [] h' ([Ck.sl eI 3 outA outL outC outv] ++ B) ∧ Iv v2 outv ∧ m v2 outv = k) := ⟨_, rfl⟩
  refine ⟨fun lz h' => ∃ k, JJ k lz h', Lm JJ, ?_, ?_⟩
  · subst hJJ hB
    exact ⟨_, _, _, _, _, _, rfl, YB, T0, rfl⟩
  · clear YB T0 Y
    intro v2 outA outL outC hv2 hI
    obtain ⟨k, hI, hm⟩ := loopIn hI
    subst hJJ hB
    obtain ⟨v2, outA, outL, outC, outv, e, Y, T, rfl⟩ := hI
    cases e
    obtain rfl := Y.lenS 0 rfl
    replace T := T1 v2 outv T
    have Y : Sy _ _ _ [_, _, _, _, _, _, _, _, _] := Y
    obtain ⟨q, q_2, T⟩ := T
    obtain ⟨b_2, o_2, hb, hr, t, hx⟩ := Y.atV 5 rfl q q_2
    refine ⟨b_2, o_2, hb, q, q_2, ?_⟩
    replace T := T t hx
    refine ⟨_, Y.cellV 5 rfl hb (t := 0) hx rfl, ?_⟩
    refine cnd_imp T (fun T => ?_) (fun T => ?_)
    · refine ⟨b_2, o_2, hb, q, q_2, ?_⟩
      refine ⟨_, Y.cellV 5 rfl hb (t := 0) hx rfl, ?_⟩
      intro hv3
      have Y : Sy _ _ hv3 [_, _, _, _, _, _, _, _, _, _] := Y.junk _
      clear_value hv3
      obtain ⟨q_3, T⟩ := T
      refine ⟨_, Y.ownS 0 rfl, (allc (Y.nJ 0 9 rfl rfl rfl) (allc (Y.nJ 0 8 rfl rfl rfl) alln)), by first | exact appB q_3 (by decide) | omega, by first | exact appM q_3 | (simp [maxLen]; omega), ?_⟩
      intro sA sC hv4 ow fA gA gB
      have Y : Sy _ _ hv4 [_, _, _, _, _, _, _, _, _, _] := Y.appS 0 rfl ([(bits .xor .i64 t (1 : Int))] : List Int) ow fA gA rfl rfl
      refine ⟨b_2, o_2, hb, q, q_2, ?_⟩
      refine ⟨_, Y.cellV 5 rfl hb (t := 0) hx rfl, ?_⟩
      refine callX_sy (T _ _ _ _ _ _ _ _ _ _ (Y.pick [1, 2, 3] rfl).hp) (fun _ _ ⟨_, p, _⟩ => p.fr) (allc (fun h => by cases h) (allc (fun h => by cases h) alln)) ?_
      rintro v3 hv5 ⟨r, PP, rfl, T⟩
      have Y : Sy _ _ hv5 [_, _, _, _, _, _, _, _, _, _] := Y.gr PP.fr
      clear PP
      refine ⟨r, rfl, ?_⟩
      exact loopBack hm ⟨_, _, _, _, _, rfl, Y.pick [0, 1, 2, 3, 4, 5, 6, 7, 8] rfl, T.1, rfl⟩ T.2
    · exact ⟨_, _, _, _, Y.pick [0] rfl, rfl, T⟩
/-- (*tracery/walk.lay).round -/
def S182 (lP : Option Addr) (tA : Option Addr) (tL tC : Nat) (tA2 : Option Addr) (tL2 tC2 : Nat) (tA3 : Option Addr) (tL3 tC3 : Nat) (tA4 : Option Addr) (tL4 tC4 : Nat) (hv : Int) (h : Heap) (R : Value → Heap → Prop) : Prop :=
  let hv2 : Heap := h.push (.cells #[.slice tA tL tC, .slice tA2 tL2 tC2, .slice tA3 tL3 tC3, .slice tA4 tL4 tC4] 113)
  callX Try.prog 180 #[.pointer lP, .int .i64 hv] hv2 [h.size] fun v hv3 =>
  ∃ r : Int, v = .int .i64 r ∧
  Fr [] hv2 hv3 ∧
  callX Try.prog 218 #[.pointer lP, .agg #[.slice tA tL tC, .slice tA2 tL2 tC2, .slice tA3 tL3 tC3, .slice tA4 tL4 tC4], .int .i64 r] hv3 [h.size] fun v2 hv4 =>
  ∃ (rA : Option Addr) (rL rC : Nat), v2 = .slice rA rL rC ∧
  Fr [] hv2 hv4 ∧
  callX Try.prog 180 #[.pointer lP, .int .i64 (bits .xor .i64 hv (1 : Int))] hv4 [h.size] fun v3 hv5 =>
  ∃ r2 : Int, v3 = .int .i64 r2 ∧
  Fr [] hv2 hv5 ∧
  callX Try.prog 218 #[.pointer lP, .agg #[.slice tA tL tC, .slice tA2 tL2 tC2, .slice tA3 tL3 tC3, .slice tA4 tL4 tC4], .int .i64 r2] hv5 [h.size] fun v4 hv6 =>
  ∃ (rA2 : Option Addr) (rL2 rC2 : Nat), v4 = .slice rA2 rL2 rC2 ∧
  Fr [] hv2 hv6 ∧
  let K2 := fun (fromA2 : Option Addr) (fromL2 fromC2 : Nat) (toA2 : Option Addr) (toL2 toC2 : Nat) (hv9 : Heap) =>
    (let hv10 : Heap := hv9.push (.cells #[.int .i64 hv] 3)
    ∃ xs : List Value, Reads hv10 1 fromA2 fromL2 xs ∧ (fromA2 = none → fromC2 = 0) ∧ (∀ v ∈ xs, v.oneCell' = true) ∧ ∃ old, Ownd hv10 3 1 (some (⟨hv9.size, 0, none⟩ : Addr)) 1 1 old ∧ (∀ b ∈ ([] : List Nat), b ∉ blkOf (some (⟨hv9.size, 0, none⟩ : Addr))) ∧ (1 + fromL2) * 8 ≤ 140737488355328 ∧ (1 + fromL2) ≤ maxLen ∧
    ∀ sA sC hv11, Ownd hv11 3 1 sA (1 + fromL2) sC (old ++ xs) → Fr (blkOf (some (⟨hv9.size, 0, none⟩ : Addr))) hv10 hv11 → ((sA = (some (⟨hv9.size, 0, none⟩ : Addr)) ∧ sC = 1) ∨ ∃ g, sA = some ⟨g, 0, none⟩ ∧ hv10.size ≤ g) → (1 < (1 + fromL2) → Fr [] hv10 hv11) →
    ∃ (Iv2 : List Value → Heap → Prop) (m2 : List Value → Heap → Nat), Iv2 [.slice sA (1 + fromL2) sC, .int .i64 (IntKind.i64.wrap (((toL2 : Nat) : Int) - (1 : Int)))] hv11 ∧ -- loop 2: ['out', 'i']
    ∀ (outA : Option Addr) (outL outC : Nat), ∀ i : Int, ∀ hv12, Iv2 [.slice outA outL outC, .int .i64 i] hv12 →
    cnd (decide (i ≥ (0 : Int)))
      (∃ b3 o3, toA2 = some ⟨b3, o3, none⟩ ∧ 0 ≤ i ∧ i < (toL2 : Nat) ∧ ∃ x3 : Int, hcell hv12 b3 (o3 + (Int.toNat i) * 1) = some (.int .i64 x3) ∧ let hv13 : Heap := hv12.push (.cells #[.int .i64 (bits .xor .i64 x3 (1 : Int))] 3)
      ∃ old2, Ownd hv13 3 1 outA outL outC old2 ∧ (∀ b ∈ ([hv12.size] : List Nat), b ∉ blkOf outA) ∧ (outL + 1) * 8 ≤ 140737488355328 ∧ (outL + 1) ≤ maxLen ∧
      ∀ sA2 sC2 hv14, Ownd hv14 3 1 sA2 (outL + 1) sC2 (old2 ++ [.int .i64 (bits .xor .i64 x3 (1 : Int))]) → Fr (blkOf outA) hv13 hv14 → ((sA2 = outA ∧ sC2 = outC) ∨ ∃ g, sA2 = some ⟨g, 0, none⟩ ∧ hv13.size ≤ g) → (outC < (outL + 1) → Fr [] hv13 hv14) →
      Iv2 [.slice sA2 (outL + 1) sC2, .int .i64 (IntKind.i64.wrap (i - (1 : Int)))] hv14 ∧ m2 [.slice sA2 (outL + 1) sC2, .int .i64 (IntKind.i64.wrap (i - (1 : Int)))] hv14 < m2 [.slice outA outL outC, .int .i64 i] hv12)
      (R (.slice outA outL outC) hv12))
  ∃ (Iv : List Value → Heap → Prop) (m : List Value → Heap → Nat), Iv [.slice rA rL rC, .slice rA2 rL2 rC2] hv6 ∧ -- loop 0: ['from', 'to']
  ∀ (fromA : Option Addr) (fromL fromC : Nat), ∀ (toA : Option Addr) (toL toC : Nat), ∀ hv7, Iv [.slice fromA fromL fromC, .slice toA toL toC] hv7 →
  let K := fun (hv8 : Heap) =>
    (K2 fromA fromL fromC toA toL toC hv8)
  cnd (decide (((fromL : Nat) : Int) > (0 : Int)))
    (cnd (decide (((toL : Nat) : Int) > (0 : Int)))
      (∃ b o, fromA = some ⟨b, o, none⟩ ∧ 0 ≤ (IntKind.i64.wrap (((fromL : Nat) : Int) - (1 : Int))) ∧ (IntKind.i64.wrap (((fromL : Nat) : Int) - (1 : Int))) < (fromL : Nat) ∧ ∃ x : Int, hcell hv7 b (o + (Int.toNat (IntKind.i64.wrap (((fromL : Nat) : Int) - (1 : Int)))) * 1) = some (.int .i64 x) ∧ ∃ b2 o2, toA = some ⟨b2, o2, none⟩ ∧ 0 ≤ (IntKind.i64.wrap (((toL : Nat) : Int) - (1 : Int))) ∧ (IntKind.i64.wrap (((toL : Nat) : Int) - (1 : Int))) < (toL : Nat) ∧ ∃ x2 : Int, hcell hv7 b2 (o2 + (Int.toNat (IntKind.i64.wrap (((toL : Nat) : Int) - (1 : Int)))) * 1) = some (.int .i64 x2) ∧ cnd (x == x2)
        (0 ≤ (IntKind.i64.wrap (((fromL : Nat) : Int) - (1 : Int))) ∧ (IntKind.i64.wrap (((fromL : Nat) : Int) - (1 : Int))) ≤ (fromC : Nat) ∧ 0 ≤ (IntKind.i64.wrap (((toL : Nat) : Int) - (1 : Int))) ∧ (IntKind.i64.wrap (((toL : Nat) : Int) - (1 : Int))) ≤ (toC : Nat) ∧ Iv [.slice (if fromC = 0 then fromA else Option.map (fun addr => Addr.add addr (0 * 1)) fromA) ((Int.toNat (IntKind.i64.wrap (((fromL : Nat) : Int) - (1 : Int)))) - 0) (fromC - 0), .slice (if toC = 0 then toA else Option.map (fun addr => Addr.add addr (0 * 1)) toA) ((Int.toNat (IntKind.i64.wrap (((toL : Nat) : Int) - (1 : Int)))) - 0) (toC - 0)] hv7 ∧ m [.slice (if fromC = 0 then fromA else Option.map (fun addr => Addr.add addr (0 * 1)) fromA) ((Int.toNat (IntKind.i64.wrap (((fromL : Nat) : Int) - (1 : Int)))) - 0) (fromC - 0), .slice (if toC = 0 then toA else Option.map (fun addr => Addr.add addr (0 * 1)) toA) ((Int.toNat (IntKind.i64.wrap (((toL : Nat) : Int) - (1 : Int)))) - 0) (toC - 0)] hv7 < m [.slice fromA fromL fromC, .slice toA toL toC] hv7)
        (K2 fromA fromL fromC toA toL toC hv7))
      (K hv7))
    (K hv7)
theorem calls182 {h : Heap} {R : Value → Heap → Prop} (lP : Option Addr) (tA : Option Addr) (tL tC : Nat) (tA2 : Option Addr) (tL2 tC2 : Nat) (tA3 : Option Addr) (tL3 tC3 : Nat) (tA4 : Option Addr) (tL4 tC4 : Nat) (hv : Int) (H : S182 lP tA tL tC tA2 tL2 tC2 tA3 tL3 tC3 tA4 tL4 tC4 hv h R) : CallsH Try.prog 182 #[.pointer lP, .agg #[.slice tA tL tC, .slice tA2 tL2 tC2, .slice tA3 tL3 tC3, .slice tA4 tL4 tC4], .int .i64 hv] h R := by
  have e : S182 lP tA tL tC tA2 tL2 tC2 tA3 tL3 tC3 tA4 tL4 tC4 hv h R = FX (envX [4, 74] 77) { loops := [(0, ⟨[2], [7, 8], [], []⟩), (2, ⟨[8], [9, 10], [], []⟩)], joins := [], blocks := [], draws := [(1, ⟨15, false⟩), (2, ⟨23, false⟩), (3, ⟨12, false⟩)] } Try.f182 (Try.f182.body.getD .skip) [.pointer lP, .agg #[.slice tA tL tC, .slice tA2 tL2 tC2, .slice tA3 tL3 tC3, .slice tA4 tL4 tC4], .int .i64 hv] h R := by kernel_rfl
  exact calls_of_FX (envX_ok _ _) Try.func182 (by kernel_rfl) (by kernel_rfl) (by kernel_rfl) (e ▸ H)
/-- (*tracery/walk.lay).round -/
def Ok182 (nV : Int) (edgesV : List (Int × Int)) (outV : List (List Int)) (orderV : List Int) (byV : List Int) (farV : List Int) (lowV : List Int) (hv : Int) (R : List Int → Prop) : Prop :=
  ∀ (h : Heap) (lB lO : Nat) (edgesVA : Option Addr) (edgesVL edgesVC : Nat) (outVA : Option Addr) (outVL outVC : Nat) (outH : List RowH) (tA : Option Addr) (tL tC : Nat) (tA2 : Option Addr) (tL2 tC2 : Nat) (tA3 : Option Addr) (tL3 tC3 : Nat) (tA4 : Option Addr) (tL4 tC4 : Nat), Hp h [Ck.vob lB lO [.int .i64 nV, .slice edgesVA edgesVL edgesVC, .slice outVA outVL outVC], Ck.vw eP edgesVA edgesVL edgesVC edgesV, Ck.vrows eI outVA outVL outVC outH outV, Ck.vw eI tA tL tC orderV, Ck.vw eI tA2 tL2 tC2 byV, Ck.vw eI tA3 tL3 tC3 farV, Ck.vw eI tA4 tL4 tC4 lowV] → CallsH Try.prog 182 #[.pointer (some ⟨lB, lO, none⟩), .agg #[.slice tA tL tC, .slice tA2 tL2 tC2, .slice tA3 tL3 tC3, .slice tA4 tL4 tC4], .int .i64 hv] h fun v h' => ∃ (rVA : Option Addr) (rVL rVC : Nat) (rV : List Int), Sy h [] h' [Ck.sl eI 3 rVA rVL rVC rV] ∧ v = .slice rVA rVL rVC ∧ R rV
theorem Ok182.mono {nV edgesV outV orderV byV farV lowV hv} {R R' : List Int → Prop} (H : Ok182 nV edgesV outV orderV byV farV lowV hv R) (kz : ∀ rV, R rV → R' rV) : Ok182 nV edgesV outV orderV byV farV lowV hv R' :=
  fun h lB lO edgesVA edgesVL edgesVC outVA outVL outVC outH tA tL tC tA2 tL2 tC2 tA3 tL3 tC3 tA4 tL4 tC4 hp => (H h lB lO edgesVA edgesVL edgesVC outVA outVL outVC outH tA tL tC tA2 tL2 tC2 tA3 tL3 tC3 tA4 tL4 tC4 hp).mono fun _ _ ⟨rVA, rVL, rVC, rV, P, e, q⟩ => ⟨rVA, rVL, rVC, rV, P, e, kz _ q⟩
def T182 (nV : Int) (edgesV : List (Int × Int)) (outV : List (List Int)) (orderV : List Int) (byV : List Int) (farV : List Int) (lowV : List Int) (hv : Int) (R : List Int → Prop) : Prop :=
  Ok180 nV edgesV outV hv (fun r =>
  Ok218 nV edgesV outV orderV byV farV lowV r (fun r_2 =>
  Ok180 nV edgesV outV (bits .xor .i64 hv (1 : Int)) (fun r2 =>
  Ok218 nV edgesV outV orderV byV farV lowV r2 (fun r_3 =>
  ∃ Jv : List Int → List Int → Prop,
  ( ∃ (Iv : List Int → List Int → Prop) (m : List Int → List Int → Nat), Iv r_2 r_3 ∧
   ∀ fromv_2 : List Int, ∀ to_3 : List Int, Iv fromv_2 to_3 →
   ∃ Jv_2 : Prop,
   ( cnd (decide (((fromv_2.length : Nat) : Int) > (0 : Int)))
      (cnd (decide (((to_3.length : Nat) : Int) > (0 : Int)))
        (0 ≤ (IntKind.i64.wrap (((fromv_2.length : Nat) : Int) - (1 : Int))) ∧ (IntKind.i64.wrap (((fromv_2.length : Nat) : Int) - (1 : Int))) < ((fromv_2.length : Nat) : Int) ∧ ∀ fromv_3 : Int, fromv_2[(Int.toNat (IntKind.i64.wrap (((fromv_2.length : Nat) : Int) - (1 : Int))))]? = some fromv_3 → 0 ≤ (IntKind.i64.wrap (((to_3.length : Nat) : Int) - (1 : Int))) ∧ (IntKind.i64.wrap (((to_3.length : Nat) : Int) - (1 : Int))) < ((to_3.length : Nat) : Int) ∧ ∀ to_4 : Int, to_3[(Int.toNat (IntKind.i64.wrap (((to_3.length : Nat) : Int) - (1 : Int))))]? = some to_4 → cnd (fromv_3 == to_4)
          (0 ≤ (IntKind.i64.wrap (((fromv_2.length : Nat) : Int) - (1 : Int))) ∧ (IntKind.i64.wrap (((fromv_2.length : Nat) : Int) - (1 : Int))) ≤ ((fromv_2.length : Nat) : Int) ∧ 0 ≤ (IntKind.i64.wrap (((to_3.length : Nat) : Int) - (1 : Int))) ∧ (IntKind.i64.wrap (((to_3.length : Nat) : Int) - (1 : Int))) ≤ ((to_3.length : Nat) : Int) ∧ Iv (fromv_2.take (Int.toNat (IntKind.i64.wrap (((fromv_2.length : Nat) : Int) - (1 : Int))))) (to_3.take (Int.toNat (IntKind.i64.wrap (((to_3.length : Nat) : Int) - (1 : Int))))) ∧ m (fromv_2.take (Int.toNat (IntKind.i64.wrap (((fromv_2.length : Nat) : Int) - (1 : Int))))) (to_3.take (Int.toNat (IntKind.i64.wrap (((to_3.length : Nat) : Int) - (1 : Int))))) < m fromv_2 to_3)
          (Jv fromv_2 to_3))
        (Jv_2))
      (Jv_2)) ∧
   (Jv_2 →
   Jv fromv_2 to_3)) ∧
  ∀ fromv : List Int, ∀ to : List Int, Jv fromv to →
  (1 + fromv.length) < 1000000000000 ∧ ∃ (Iv2 : List Int → Int → Prop) (m2 : List Int → Int → Nat), Iv2 (([hv] : List Int) ++ fromv) (IntKind.i64.wrap (((to.length : Nat) : Int) - (1 : Int))) ∧
  ∀ outv : List Int, ∀ i : Int, Iv2 outv i →
  cnd (decide (i ≥ (0 : Int)))
    (0 ≤ i ∧ i < ((to.length : Nat) : Int) ∧ ∀ to_2 : Int, to[(Int.toNat i)]? = some to_2 → (outv.length + 1) < 1000000000000 ∧ Iv2 (outv ++ [(bits .xor .i64 to_2 (1 : Int))]) (IntKind.i64.wrap (i - (1 : Int))) ∧ m2 (outv ++ [(bits .xor .i64 to_2 (1 : Int))]) (IntKind.i64.wrap (i - (1 : Int))) < m2 outv i)
    (R outv)))))
theorem ok182 {nV edgesV outV orderV byV farV lowV hv} {R : List Int → Prop} (T : T182 nV edgesV outV orderV byV farV lowV hv R) : Ok182 nV edgesV outV orderV byV farV lowV hv R := by
  intro h lB lO edgesVA edgesVL edgesVC outVA outVL outVC outH tA tL tC tA2 tL2 tC2 tA3 tL3 tC3 tA4 tL4 tC4 H
  have Y : Sy h [] h _ := Sy.startM H rfl
  obtain rfl := Y.lenV 1 rfl
  obtain rfl := Y.lenW 2 rfl
  obtain rfl := Y.lenV 3 rfl
  obtain rfl := Y.lenV 4 rfl
  obtain rfl := Y.lenV 5 rfl
  obtain rfl := Y.lenV 6 rfl
  apply calls182
  unfold S182
  unfold T182 at T
  intro hv2
  have Y : Sy _ _ hv2 [_, _, _, _, _, _, _, _] := Y.junk _
  clear_value hv2
  have Y0 := Y
  have F : Fr [] hv2 hv2 := Fr.refl _ _
  refine callX_sy (T _ _ _ _ _ _ _ _ _ _ (Y.pick [0, 1, 2] rfl).hp) (fun _ _ ⟨_, p, _⟩ => p.fr) (allc (fun h => by cases h) alln) ?_
  rintro v hv3 ⟨r, PP, rfl, T⟩
  have F : Fr _ _ hv3 := F.trans PP.fr.nil
  have fshv3 := F.size
  have Y : Sy _ _ hv3 [_, _, _, _, _, _, _, _] := Y.gr PP.fr
  clear PP
  refine ⟨r, rfl, ?_⟩
  refine ⟨F, ?_⟩
  refine callX_sy (T _ _ _ _ _ _ _ _ _ _ _ _ _ _ _ _ _ _ _ _ _ _ (Y.pick [0, 1, 2, 3, 4, 5, 6] rfl).hp) (fun _ _ ⟨_, _, _, _, p, _⟩ => p.fr) (allc (fun h => by cases h) alln) ?_
  rintro v2 hv4 ⟨rA, rL, rC, r_2, PP, rfl, T⟩
  have F : Fr _ _ hv4 := F.trans PP.fr.nil
  have fshv4 := F.size
  have Y : Sy _ _ hv4 [_, _, _, _, _, _, _, _, _] := Y.callV PP ⟨rfl, trivial⟩
  clear PP
  obtain rfl := Y.lenS 8 rfl
  refine ⟨_, _, _, rfl, ?_⟩
  refine ⟨F, ?_⟩
  refine callX_sy (T _ _ _ _ _ _ _ _ _ _ (Y.pick [0, 1, 2] rfl).hp) (fun _ _ ⟨_, p, _⟩ => p.fr) (allc (fun h => by cases h) alln) ?_
  rintro v3 hv5 ⟨r2, PP, rfl, T⟩
  have F : Fr _ _ hv5 := F.trans PP.fr.nil
  have fshv5 := F.size
  have Y : Sy _ _ hv5 [_, _, _, _, _, _, _, _, _] := Y.gr PP.fr
  clear PP
  refine ⟨r2, rfl, ?_⟩
  refine ⟨F, ?_⟩
  refine callX_sy (T _ _ _ _ _ _ _ _ _ _ _ _ _ _ _ _ _ _ _ _ _ _ (Y.pick [0, 1, 2, 3, 4, 5, 6] rfl).hp) (fun _ _ ⟨_, _, _, _, p, _⟩ => p.fr) (allc (fun h => by cases h) alln) ?_
  rintro v4 hv6 ⟨rA2, rL2, rC2, r_3, PP, rfl, T⟩
  have F : Fr _ _ hv6 := F.trans PP.fr.nil
  have fshv6 := F.size
  have Y : Sy _ _ hv6 [_, _, _, _, _, _, _, _, _, _] := Y.callV PP ⟨rfl, trivial⟩
  clear PP
  obtain rfl := Y.lenS 9 rfl
  refine ⟨_, _, _, rfl, ?_⟩
  refine ⟨F, ?_⟩
  obtain ⟨Jv, T0, T1⟩ := T
  obtain ⟨B, hB, _⟩ := Y.cut [] [0, 1, 2, 3, 4, 5, 6, 7] rfl
  intro K2
  have hK2 : ∀ (fromA2 : Option Addr) (fromL2 fromC2 : Nat) (toA2 : Option Addr) (toL2 toC2 : Nat) (hv9 : Heap), (∃ (fromv : List Int) (to : List Int), Sy h [] hv9 ([Ck.sl eI 3 fromA2 fromL2 fromC2 fromv, Ck.sl eI 3 toA2 toL2 toC2 to] ++ B) ∧ Jv fromv to) → K2 fromA2 fromL2 fromC2 toA2 toL2 toC2 hv9 := by
    subst hB
    clear T0 Y
    rintro fromA2 fromL2 fromC2 toA2 toL2 toC2 hv9 ⟨fromv, to, Y, T⟩
    obtain rfl := Y.lenS 0 rfl
    obtain rfl := Y.lenS 1 rfl
    replace T := T1 fromv to T
    have Y : Sy _ _ _ [_, _, _, _, _, _, _, _, _, _] := Y
    unfold K2
    intro hv10
    have Y : Sy _ _ hv10 [_, _, _, _, _, _, _, _, _, _, _] := Y.litS (E := eI) (ty := 3) ([hv] : List Int) rfl (by simp [maxLen])
    clear_value hv10
    refine ⟨_, Y.readsS 0 rfl, (Y.capS 0 rfl).2.2, En.l_one _, ?_⟩
    obtain ⟨q, T⟩ := T
    refine ⟨_, Y.ownS 10 rfl, alln, by first | exact appB q (by decide) | omega, by first | exact appM q | (simp [maxLen]; omega), ?_⟩
    intro sA sC hv11 ow fA gA gB
    have Y : Sy _ _ hv11 [_, _, _, _, _, _, _, _, _, _, _] := Y.appS 10 rfl fromv ow fA gA rfl (by first | rfl | simp)
    obtain ⟨Iv2, m2, T0, T1⟩ := T
    obtain ⟨B_2, hB_2, YB⟩ := Y.cut [10] [0, 1, 2, 3, 4, 5, 6, 7, 8, 9] rfl
    obtain ⟨JJ, hJJ⟩ : ∃ JJ : Nat → List Value → Heap → Prop, JJ = (fun k lz h' => ∃ (outA : Option Addr) (outL outC : Nat) (outv : List Int) (i : Int), lz = [.slice outA outL outC, .int .i64 i] ∧ Sy h [] h' ([Ck.sl eI 3 outA outL outC outv] ++ B_2) ∧ Iv2 outv i ∧ m2 outv i = k) := ⟨_, rfl⟩
    refine ⟨fun lz h' => ∃ k, JJ k lz h', Lm JJ, ?_, ?_⟩
    · subst hJJ hB_2
      exact ⟨_, _, _, _, _, _, rfl, YB, T0, rfl⟩
    · clear YB T0 Y
      intro outA outL outC i hv12 hI
      obtain ⟨k, hI, hm⟩ := loopIn hI
      subst hJJ hB_2
      obtain ⟨outA, outL, outC, outv, i, e, Y, T, rfl⟩ := hI
      cases e
      obtain rfl := Y.lenS 0 rfl
      replace T := T1 outv i T
      have Y : Sy _ _ _ [_, _, _, _, _, _, _, _, _, _, _] := Y
      refine cnd_imp T (fun T => ?_) (fun T => ?_)
      · obtain ⟨q_2, q_3, T⟩ := T
        obtain ⟨b_2, hb, ho, to_2, hx⟩ := Y.atS 2 rfl q_2 q_3
        refine ⟨b_2, 0, hb, q_2, q_3, ?_⟩
        replace T := T to_2 hx
        refine ⟨_, Y.cellS 2 rfl hb (t := 0) hx rfl, ?_⟩
        intro hv13
        have Y : Sy _ _ hv13 [_, _, _, _, _, _, _, _, _, _, _, _] := Y.junk _
        clear_value hv13
        obtain ⟨q_4, T⟩ := T
        refine ⟨_, Y.ownS 0 rfl, (allc (Y.nJ 0 11 rfl rfl rfl) alln), by first | exact appB q_4 (by decide) | omega, by first | exact appM q_4 | (simp [maxLen]; omega), ?_⟩
        intro sA2 sC2 hv14 ow fA gA gB
        have Y : Sy _ _ hv14 [_, _, _, _, _, _, _, _, _, _, _, _] := Y.appS 0 rfl ([(bits .xor .i64 to_2 (1 : Int))] : List Int) ow fA gA rfl rfl
        exact loopBack hm ⟨_, _, _, _, _, rfl, Y.pick [0, 1, 2, 3, 4, 5, 6, 7, 8, 9, 10] rfl, T.1, rfl⟩ T.2
      · exact ⟨_, _, _, _, Y.pick [0] rfl, rfl, T⟩
  subst hB
  replace T := T0
  clear T0 T1
  obtain ⟨Iv, m, T0, T1⟩ := T
  obtain ⟨B_3, hB_3, YB⟩ := Y.cut [8, 9] [0, 1, 2, 3, 4, 5, 6, 7] rfl
  obtain ⟨JJ_2, hJJ_2⟩ : ∃ JJ_2 : Nat → List Value → Heap → Prop, JJ_2 = (fun k_2 lz h' => ∃ (fromA : Option Addr) (fromL fromC : Nat) (fromv_2 : List Int) (toA : Option Addr) (toL toC : Nat) (to_3 : List Int), lz = [.slice fromA fromL fromC, .slice toA toL toC] ∧ Sy h [] h' ([Ck.sl eI 3 fromA fromL fromC fromv_2, Ck.sl eI 3 toA toL toC to_3] ++ B_3) ∧ Iv fromv_2 to_3 ∧ m fromv_2 to_3 = k_2) := ⟨_, rfl⟩
  refine ⟨fun lz h' => ∃ k_2, JJ_2 k_2 lz h', Lm JJ_2, ?_, ?_⟩
  · subst hJJ_2 hB_3
    exact ⟨_, _, _, _, _, _, _, _, _, rfl, YB, T0, rfl⟩
  · clear YB T0 Y
    intro fromA fromL fromC toA toL toC hv7 hI
    obtain ⟨k_2, hI, hm_2⟩ := loopIn hI
    subst hJJ_2 hB_3
    obtain ⟨fromA, fromL, fromC, fromv_2, toA, toL, toC, to_3, e, Y, T, rfl⟩ := hI
    cases e
    obtain rfl := Y.lenS 0 rfl
    obtain rfl := Y.lenS 1 rfl
    replace T := T1 fromv_2 to_3 T
    have Y : Sy _ _ _ [_, _, _, _, _, _, _, _, _, _] := Y
    obtain ⟨Jv_2, T0, T1⟩ := T
    obtain ⟨B_4, hB_4, _⟩ := Y.cut [] [0, 1, 2, 3, 4, 5, 6, 7, 8, 9] rfl
    intro K
    have hK : ∀  (hv8 : Heap), (Sy h [] hv8 ([] ++ B_4) ∧ Jv_2) → K hv8 := by
      subst hB_4
      clear T0 Y
      rintro hv8 ⟨Y, T⟩
      replace T := T1 T
      have Y : Sy _ _ _ [_, _, _, _, _, _, _, _, _, _] := Y
      unfold K
      exact hK2 _ _ _ _ _ _ _ ⟨_, _, Y.pick [0, 1, 2, 3, 4, 5, 6, 7, 8, 9] rfl, T⟩
    subst hB_4
    replace T := T0
    clear T0 T1
    have Y0 := Y
    have F : Fr [] hv7 hv7 := Fr.refl _ _
    refine cnd_imp T (fun T => ?_) (fun T => ?_)
    · refine cnd_imp T (fun T => ?_) (fun T => ?_)
      · obtain ⟨q_5, q_6, T⟩ := T
        obtain ⟨b_3, hb_2, ho_2, fromv_3, hx_2⟩ := Y0.atS 0 rfl q_5 q_6
        refine ⟨b_3, 0, hb_2, q_5, q_6, ?_⟩
        replace T := T fromv_3 hx_2
        refine ⟨_, Y0.cellS 0 rfl hb_2 (t := 0) hx_2 rfl, ?_⟩
        obtain ⟨q_7, q_8, T⟩ := T
        obtain ⟨b_4, hb_3, ho_3, to_4, hx_3⟩ := Y0.atS 1 rfl q_7 q_8
        refine ⟨b_4, 0, hb_3, q_7, q_8, ?_⟩
        replace T := T to_4 hx_3
        refine ⟨_, Y0.cellS 1 rfl hb_3 (t := 0) hx_3 rfl, ?_⟩
        refine cnd_imp T (fun T => ?_) (fun T => ?_)
        · have Y0 := Y
          have F : Fr [] hv7 hv7 := Fr.refl _ _
          obtain ⟨q_9, q_10, T⟩ := T
          refine ⟨q_9, (by have := (Y.capS 0 rfl).1; omega), ?_⟩
          try rw [slice0]
          obtain ⟨q_11, q_12, T⟩ := T
          refine ⟨q_11, (by have := (Y.capS 1 rfl).1; omega), ?_⟩
          try rw [slice0]
          have Y : Sy _ _ _ [_, _, _, _, _, _, _, _, _, _] := Y.shrS 0 rfl (Int.toNat (IntKind.i64.wrap (((fromv_2.length : Nat) : Int) - (1 : Int)))) (by omega)
          have Y : Sy _ _ _ [_, _, _, _, _, _, _, _, _, _] := Y.shrS 1 rfl (Int.toNat (IntKind.i64.wrap (((to_3.length : Nat) : Int) - (1 : Int)))) (by omega)
          exact loopBack hm_2 ⟨_, _, _, _, _, _, _, _, rfl, Y.pick [0, 1, 2, 3, 4, 5, 6, 7, 8, 9] rfl, T.1, rfl⟩ T.2
        · exact hK2 _ _ _ _ _ _ _ ⟨_, _, Y.pick [0, 1, 2, 3, 4, 5, 6, 7, 8, 9] rfl, T⟩
      · exact hK _ ⟨Y.pick [0, 1, 2, 3, 4, 5, 6, 7, 8, 9] rfl, T⟩
    · exact hK _ ⟨Y.pick [0, 1, 2, 3, 4, 5, 6, 7, 8, 9] rfl, T⟩
/-- tracery/walk.Sides -/
def S90 (g : Int) (gA : Option Addr) (gL gC : Nat) (h : Heap) (R : Value → Heap → Prop) : Prop :=
  let hv : Heap := h.push (.cells #[.int .i64 g, .slice gA gL gC] 26)
  callX Try.prog 140 #[.agg #[.int .i64 g, .slice gA gL gC]] hv [h.size] fun v hv2 =>
  ∃ r : Bool, v = .bool r ∧
  cnd (!r)
    (R (.tuple #[.slice none 0 0, .slice none 0 0, .int .i64 1]) hv2)
    (callX Try.prog 175 #[.agg #[.int .i64 g, .slice gA gL gC]] hv2 [h.size] fun v2 hv3 =>
    ∃ rP : Option Addr, v2 = .pointer rP ∧
    callX Try.prog 178 #[.int .i64 g, .int .i64 (-1)] hv3 [h.size] fun v3 hv4 =>
    ∃ (rA : Option Addr) (rL rC : Nat), v3 = .slice rA rL rC ∧
    ∃ (Iv : List Value → Heap → Prop) (m : List Value → Heap → Nat), Iv [.int .i64 0] hv4 ∧ -- loop 0: ['25']
    ∀ x : Int, ∀ hv5, Iv [.int .i64 x] hv5 →
    cnd (decide (x < ((rL : Nat) : Int)))
      (∃ Jv : List Value → Heap → Prop, -- block 1 []
      ( ∃ b o, rA = some ⟨b, o, none⟩ ∧ 0 ≤ x ∧ x < (rL : Nat) ∧ ∃ x2 : Int, hcell hv5 b (o + (Int.toNat x) * 1) = some (.int .i64 x2) ∧ cnd (decide (x2 ≥ (0 : Int)))
         (Jv [] hv5)
         (callX Try.prog 176 #[.pointer rP, .int .i64 x] hv5 [] fun v4 hv6 =>
         ∃ (rA2 : Option Addr) (rL2 rC2 : Nat), ∃ (rA3 : Option Addr) (rL3 rC3 : Nat), ∃ (rA4 : Option Addr) (rL4 rC4 : Nat), ∃ (rA5 : Option Addr) (rL5 rC5 : Nat), v4 = .agg #[.slice rA2 rL2 rC2, .slice rA3 rL3 rC3, .slice rA4 rL4 rC4, .slice rA5 rL5 rC5] ∧
         let hv7 : Heap := hv6.push (.cells #[.slice none 0 0, .slice none 0 0, .slice none 0 0, .slice none 0 0] 113)
         let hv8 : Heap := hset (hset (hset (hset hv7 hv6.size 0 (.slice rA2 rL2 rC2)) hv6.size (0 + 1) (.slice rA3 rL3 rC3)) hv6.size ((0 + 1) + 1) (.slice rA4 rL4 rC4)) hv6.size (((0 + 1) + 1) + 1) (.slice rA5 rL5 rC5)
         ∃ (Iv2 : List Value → Heap → Prop) (m2 : List Value → Heap → Nat), Iv2 [.int .i64 0] hv8 ∧ -- loop 2: ['39']
         ∀ x3 : Int, ∀ hv9, Iv2 [.int .i64 x3] hv9 →
         cnd (decide (x3 < ((rL2 : Nat) : Int)))
           (∃ b2 o2, rA2 = some ⟨b2, o2, none⟩ ∧ 0 ≤ x3 ∧ x3 < (rL2 : Nat) ∧ ∃ x4 : Int, hcell hv9 b2 (o2 + (Int.toNat x3) * 1) = some (.int .i64 x4) ∧ ∃ b3 o3, rA4 = some ⟨b3, o3, none⟩ ∧ 0 ≤ x4 ∧ x4 < (rL4 : Nat) ∧ ∃ x5 : Int, hcell hv9 b3 (o3 + (Int.toNat x4) * 1) = some (.int .i64 x5) ∧ (2 : Int) ≠ 0 ∧ ∃ b4 o4, rA = some ⟨b4, o4, none⟩ ∧ 0 ≤ x4 ∧ x4 < (rL : Nat) ∧ b4 ≠ hv6.size ∧ (∃ u, hcell hv9 b4 (o4 + (Int.toNat x4) * 1) = some u) ∧ hfree hv9 b4 (o4 + (Int.toNat x4) * 1) = true ∧ let hv10 : Heap := hset hv9 b4 (o4 + (Int.toNat x4) * 1) (.int .i64 (Int.tmod x5 (2 : Int)))
           Iv2 [.int .i64 (IntKind.i64.wrap (x3 + (1 : Int)))] hv10 ∧ m2 [.int .i64 (IntKind.i64.wrap (x3 + (1 : Int)))] hv10 < m2 [.int .i64 x3] hv9)
           (∃ (Iv3 : List Value → Heap → Prop) (m3 : List Value → Heap → Nat), Iv3 [.int .i64 0] hv9 ∧ -- loop 4: ['56']
           ∀ x6 : Int, ∀ hv11, Iv3 [.int .i64 x6] hv11 →
           cnd (decide (x6 < ((rL2 : Nat) : Int)))
             (∃ b5 o5, rA2 = some ⟨b5, o5, none⟩ ∧ 0 ≤ x6 ∧ x6 < (rL2 : Nat) ∧ ∃ x7 : Int, hcell hv11 b5 (o5 + (Int.toNat x6) * 1) = some (.int .i64 x7) ∧ ∃ b6 o6, rP = some ⟨b6, o6, none⟩ ∧ ∃ (xA : Option Addr) (xL xC : Nat), hcell hv11 b6 (o6 + 2) = some (.slice xA xL xC) ∧ ∃ b7 o7, xA = some ⟨b7, o7, none⟩ ∧ 0 ≤ x7 ∧ x7 < (xL : Nat) ∧ ∃ (xA2 : Option Addr) (xL2 xC2 : Nat), hcell hv11 b7 (o7 + (Int.toNat x7) * 1) = some (.slice xA2 xL2 xC2) ∧ ∃ (Iv4 : List Value → Heap → Prop) (m4 : List Value → Heap → Nat), Iv4 [.int .i64 0] hv11 ∧ -- loop 6: ['68']
             ∀ x8 : Int, ∀ hv12, Iv4 [.int .i64 x8] hv12 →
             cnd (decide (x8 < ((xL2 : Nat) : Int)))
               (∃ b8 o8, xA2 = some ⟨b8, o8, none⟩ ∧ 0 ≤ x8 ∧ x8 < (xL2 : Nat) ∧ ∃ x9 : Int, hcell hv12 b8 (o8 + (Int.toNat x8) * 1) = some (.int .i64 x9) ∧ ∃ b9 o9, rA = some ⟨b9, o9, none⟩ ∧ 0 ≤ x7 ∧ x7 < (rL : Nat) ∧ ∃ x10 : Int, hcell hv12 b9 (o9 + (Int.toNat x7) * 1) = some (.int .i64 x10) ∧ callX Try.prog 180 #[.pointer rP, .int .i64 x9] hv12 [hv6.size] fun v5 hv13 =>
               ∃ r2 : Int, v5 = .int .i64 r2 ∧
               Fr [] hv12 hv13 ∧
               ∃ b10 o10, rA = some ⟨b10, o10, none⟩ ∧ 0 ≤ r2 ∧ r2 < (rL : Nat) ∧ ∃ x11 : Int, hcell hv12 b10 (o10 + (Int.toNat r2) * 1) = some (.int .i64 x11) ∧ cnd (x11 == x10)
                 (callX Try.prog 182 #[.pointer rP, .agg #[.slice rA2 rL2 rC2, .slice rA3 rL3 rC3, .slice rA4 rL4 rC4, .slice rA5 rL5 rC5], .int .i64 x9] hv13 [hv6.size] fun v6 hv14 =>
                 ∃ (rA6 : Option Addr) (rL6 rC6 : Nat), v6 = .slice rA6 rL6 rC6 ∧
                 R (.tuple #[.slice none 0 0, .slice rA6 rL6 rC6, .int .i64 0]) hv14)
                 (Iv4 [.int .i64 (IntKind.i64.wrap (x8 + (1 : Int)))] hv13 ∧ m4 [.int .i64 (IntKind.i64.wrap (x8 + (1 : Int)))] hv13 < m4 [.int .i64 x8] hv12))
               (Iv3 [.int .i64 (IntKind.i64.wrap (x6 + (1 : Int)))] hv12 ∧ m3 [.int .i64 (IntKind.i64.wrap (x6 + (1 : Int)))] hv12 < m3 [.int .i64 x6] hv11))
             (Jv [] hv11)))) ∧
      ∀ hv15, Jv [] hv15 →
      Iv [.int .i64 (IntKind.i64.wrap (x + (1 : Int)))] hv15 ∧ m [.int .i64 (IntKind.i64.wrap (x + (1 : Int)))] hv15 < m [.int .i64 x] hv5)
      (R (.tuple #[.slice rA rL rC, .slice none 0 0, .int .i64 0]) hv5))
theorem calls90 {h : Heap} {R : Value → Heap → Prop} (g : Int) (gA : Option Addr) (gL gC : Nat) (H : S90 g gA gL gC h R) : CallsH Try.prog 90 #[.agg #[.int .i64 g, .slice gA gL gC]] h R := by
  have e : S90 g gA gL gC h R = FX (envX [1, 8] 91) { loops := [(0, ⟨[5, 6, 24], [25], [], []⟩), (2, ⟨[5, 6, 8, 24, 25, 37, 38], [39], [8], []⟩), (4, ⟨[5, 6, 8, 24, 25, 54, 55], [56], [8], []⟩), (6, ⟨[5, 6, 8, 12, 24, 25, 54, 55, 56, 66, 67], [68], [8], []⟩)], joins := [], blocks := [(1, ⟨[5, 6, 24, 25], [], [], []⟩)], draws := [(21, ⟨11, false⟩)] } Try.f90 (Try.f90.body.getD .skip) [.agg #[.int .i64 g, .slice gA gL gC]] h R := by kernel_rfl
  exact calls_of_FX (envX_ok _ _) Try.func90 (by kernel_rfl) (by kernel_rfl) (by kernel_rfl) (e ▸ H)
/-- tracery/walk.Sides -/
def Ok90 (g : Int) (edgesV : List (Int × Int)) (R : List Int → List Int → Int → Prop) : Prop :=
  ∀ (h : Heap) (gA : Option Addr) (gL gC : Nat), Hp h [Ck.vw eP gA gL gC edgesV] → CallsH Try.prog 90 #[.agg #[.int .i64 g, .slice gA gL gC]] h fun v h' => ∃ (raVA : Option Addr) (raVL raVC : Nat) (raV : List Int) (rbVA : Option Addr) (rbVL rbVC : Nat) (rbV : List Int) (rcV : Int), Sy h [] h' [Ck.sl eI 3 raVA raVL raVC raV, Ck.sl eI 3 rbVA rbVL rbVC rbV] ∧ v = .tuple #[.slice raVA raVL raVC, .slice rbVA rbVL rbVC, .int .i64 rcV] ∧ R raV rbV rcV
theorem Ok90.mono {g edgesV} {R R' : List Int → List Int → Int → Prop} (H : Ok90 g edgesV R) (kz : ∀ raV rbV rcV, R raV rbV rcV → R' raV rbV rcV) : Ok90 g edgesV R' :=
  fun h gA gL gC hp => (H h gA gL gC hp).mono fun _ _ ⟨raVA, raVL, raVC, raV, rbVA, rbVL, rbVC, rbV, rcV, P, e, q⟩ => ⟨raVA, raVL, raVC, raV, rbVA, rbVL, rbVC, rbV, rcV, P, e, kz _ _ _ q⟩
def T90 (g : Int) (edgesV : List (Int × Int)) (R : List Int → List Int → Int → Prop) : Prop :=
  Ok140 g edgesV (fun r =>
  cnd (!r)
    (R ([] : List Int) ([] : List Int) 1)
    (Ok175 g edgesV (fun nV outV =>
    Ok178 g (-1) (fun r_2 =>
    ∃ (Iv : Int → List Int → Prop) (m : Int → List Int → Nat), Iv 0 r_2 ∧
    ∀ x : Int, ∀ r_2_2 : List Int, Iv x r_2_2 →
    cnd (decide (x < ((r_2.length : Nat) : Int)))
      (∃ Jv : List Int → Prop,
      ( 0 ≤ x ∧ x < ((r_2.length : Nat) : Int) ∧ ∀ r_3 : Int, r_2_2[(Int.toNat x)]? = some r_3 → cnd (decide (r_3 ≥ (0 : Int)))
         (Jv r_2_2)
         (Ok176 nV edgesV outV x (fun r_4 r_5 r_6 r_7 =>
         ∃ (Iv2 : Int → List Int → Prop) (m2 : Int → List Int → Nat), Iv2 0 r_2_2 ∧
         ∀ x3 : Int, ∀ r_2_2_3 : List Int, Iv2 x3 r_2_2_3 →
         cnd (decide (x3 < ((r_4.length : Nat) : Int)))
           (0 ≤ x3 ∧ x3 < ((r_4.length : Nat) : Int) ∧ ∀ r_8 : Int, r_4[(Int.toNat x3)]? = some r_8 → 0 ≤ r_8 ∧ r_8 < ((r_6.length : Nat) : Int) ∧ ∀ r_9 : Int, r_6[(Int.toNat r_8)]? = some r_9 → (2 : Int) ≠ 0 ∧ 0 ≤ r_8 ∧ r_8 < ((r_2.length : Nat) : Int) ∧ Iv2 (IntKind.i64.wrap (x3 + (1 : Int))) (r_2_2_3.set (Int.toNat r_8) (Int.tmod r_9 (2 : Int))) ∧ m2 (IntKind.i64.wrap (x3 + (1 : Int))) (r_2_2_3.set (Int.toNat r_8) (Int.tmod r_9 (2 : Int))) < m2 x3 r_2_2_3)
           (∃ (Iv3 : Int → Prop) (m3 : Int → Nat), Iv3 0 ∧
           ∀ x6 : Int, Iv3 x6 →
           cnd (decide (x6 < ((r_4.length : Nat) : Int)))
             (0 ≤ x6 ∧ x6 < ((r_4.length : Nat) : Int) ∧ ∀ r_11 : Int, r_4[(Int.toNat x6)]? = some r_11 → 0 ≤ r_11 ∧ r_11 < ((outV.length : Nat) : Int) ∧ ∀ x_2 : List Int, outV[(Int.toNat r_11)]? = some x_2 → ∃ (Iv4 : Int → Prop) (m4 : Int → Nat), Iv4 0 ∧
             ∀ x8 : Int, Iv4 x8 →
             cnd (decide (x8 < ((x_2.length : Nat) : Int)))
               (0 ≤ x8 ∧ x8 < ((x_2.length : Nat) : Int) ∧ ∀ x_3 : Int, x_2[(Int.toNat x8)]? = some x_3 → 0 ≤ r_11 ∧ r_11 < ((r_2.length : Nat) : Int) ∧ ∀ r_13 : Int, r_2_2_3[(Int.toNat r_11)]? = some r_13 → Ok180 nV edgesV outV x_3 (fun r2 =>
               0 ≤ r2 ∧ r2 < ((r_2.length : Nat) : Int) ∧ ∀ r_14 : Int, r_2_2_3[(Int.toNat r2)]? = some r_14 → cnd (r_14 == r_13)
                 (Ok182 nV edgesV outV r_4 r_5 r_6 r_7 x_3 (fun r_15 =>
                 R ([] : List Int) r_15 0))
                 (Iv4 (IntKind.i64.wrap (x8 + (1 : Int))) ∧ m4 (IntKind.i64.wrap (x8 + (1 : Int))) < m4 x8)))
               (Iv3 (IntKind.i64.wrap (x6 + (1 : Int))) ∧ m3 (IntKind.i64.wrap (x6 + (1 : Int))) < m3 x6))
             (Jv r_2_2_3))))) ∧
      ∀ r_2_2_2 : List Int, Jv r_2_2_2 →
      Iv (IntKind.i64.wrap (x + (1 : Int))) r_2_2_2 ∧ m (IntKind.i64.wrap (x + (1 : Int))) r_2_2_2 < m x r_2_2)
      (R r_2_2 ([] : List Int) 0)))))
theorem ok90 {g edgesV} {R : List Int → List Int → Int → Prop} (T : T90 g edgesV R) : Ok90 g edgesV R := by
  intro h gA gL gC H
  have Y : Sy h [] h _ := Sy.startM H rfl
  obtain rfl := Y.lenV 0 rfl
  apply calls90
  unfold S90
  unfold T90 at T
  intro hv
  have Y : Sy _ _ hv [_, _] := Y.junk _
  clear_value hv
  refine callX_sy (T _ _ _ _ (Y.pick [0] rfl).hp) (fun _ _ ⟨_, p, _⟩ => p.fr) (allc (fun h => by cases h) alln) ?_
  rintro v hv2 ⟨r, PP, rfl, T⟩
  have Y : Sy _ _ hv2 [_, _] := Y.gr PP.fr
  clear PP
  refine ⟨r, rfl, ?_⟩
  refine cnd_imp T (fun T => ?_) (fun T => ?_)
  · have Y : Sy _ _ _ [_, _, _] := Y.nilS eI 3
    have Y : Sy _ _ _ [_, _, _, _] := Y.nilS eI 3
    exact ⟨_, _, _, _, _, _, _, _, _, Y.pick [2, 3] rfl, rfl, T⟩
  · refine callX_sy (T _ _ _ _ (Y.pick [0] rfl).hp) (fun _ _ ⟨_, _, _, _, _, _, _, p, _⟩ => p.fr) (allc (fun h => by cases h) alln) ?_
    rintro v2 hv3 ⟨rB_2, nV, outVA, outVL, outVC, outH, outV, PP, rfl, T⟩
    have Y : Sy _ _ hv3 [_, _, _, _] := Y.callV PP ⟨rfl, ⟨rfl, trivial⟩⟩
    clear PP
    obtain rfl := Y.lenR 3 rfl
    refine ⟨_, rfl, ?_⟩
    refine callX_sy (T _ (Hp.nil _)) (fun _ _ ⟨_, _, _, _, p, _⟩ => p.fr) (allc (fun h => by cases h) alln) ?_
    rintro v3 hv4 ⟨rA, rL, rC, r_2, PP, rfl, T⟩
    have Y : Sy _ _ hv4 [_, _, _, _, _] := Y.callV PP ⟨rfl, trivial⟩
    clear PP
    obtain rfl := Y.lenS 4 rfl
    refine ⟨_, _, _, rfl, ?_⟩
    obtain ⟨Iv, m, T0, T1⟩ := T
    obtain ⟨B, hB, YB⟩ := Y.cut [4] [0, 1, 2, 3] rfl
    obtain ⟨F, hF⟩ := Y.fnS (k := 4) rfl
    obtain ⟨JJ, hJJ⟩ : ∃ JJ : Nat → List Value → Heap → Prop, JJ = (fun k lz h' => ∃ (x : Int) (r_2_2 : List Int), lz = [.int .i64 x] ∧ Sy h [] h' ([F r_2_2] ++ B) ∧ Iv x r_2_2 ∧ m x r_2_2 = k) := ⟨_, rfl⟩
    refine ⟨fun lz h' => ∃ k, JJ k lz h', Lm JJ, ?_, ?_⟩
    · subst hJJ hB hF
      exact ⟨_, _, _, rfl, YB, T0, rfl⟩
    · clear YB T0 Y
      intro x hv5 hI
      obtain ⟨k, hI, hm⟩ := loopIn hI
      subst hJJ hB hF
      obtain ⟨x, r_2_2, e, Y, T, rfl⟩ := hI
      cases e
      replace T := T1 x r_2_2 T
      have Y : Sy _ _ _ [_, _, _, _, _] := Y
      refine cnd_imp T (fun T => ?_) (fun T => ?_)
      · obtain ⟨Jv, T0, T1⟩ := T
        obtain ⟨B_2, hB_2, _⟩ := Y.cut [] [1, 2, 3, 4] rfl
        obtain ⟨F_2, hF_2⟩ := Y.fnS (k := 0) rfl
        refine ⟨fun lz h' => ∃ (r_2_2_2 : List Int), lz = [] ∧ Sy h [] h' ([F_2 r_2_2_2] ++ B_2) ∧ Jv r_2_2_2, ?_, ?_⟩
        · subst hB_2 hF_2
          replace T := T0
          clear T0 T1
          obtain ⟨q, q_2, T⟩ := T
          obtain ⟨b_2, hb, ho, r_3, hx⟩ := Y.atS 0 rfl q q_2
          refine ⟨b_2, 0, hb, q, q_2, ?_⟩
          replace T := T r_3 hx
          refine ⟨_, Y.cellS 0 rfl hb (t := 0) hx rfl, ?_⟩
          refine cnd_imp T (fun T => ?_) (fun T => ?_)
          · exact ⟨_, rfl, Y.pick [0, 1, 2, 3, 4] rfl, T⟩
          · refine callX_sy (T _ _ _ _ _ _ _ _ _ _ (((Y.turn 3 rfl To.obvob).turn 4 rfl To.rowsv).pick [3, 1, 4] rfl).hp) (fun _ _ ⟨_, _, _, _, _, _, _, _, _, _, _, _, _, _, _, _, p, _⟩ => p.fr) alln ?_
            rintro v4 hv6 ⟨rA2, rL2, rC2, r_4, rA3, rL3, rC3, r_5, rA4, rL4, rC4, r_6, rA5, rL5, rC5, r_7, PP, rfl, T⟩
            have Y : Sy _ _ hv6 [_, _, _, _, _, _, _, _, _] := Y.callV PP ⟨rfl, ⟨rfl, ⟨rfl, ⟨rfl, trivial⟩⟩⟩⟩
            clear PP
            obtain rfl := Y.lenS 5 rfl
            obtain rfl := Y.lenS 6 rfl
            obtain rfl := Y.lenS 7 rfl
            obtain rfl := Y.lenS 8 rfl
            refine ⟨_, _, _, _, _, _, _, _, _, _, _, _, rfl, ?_⟩
            intro hv7
            have Y : Sy _ _ hv7 [_, _, _, _, _, _, _, _, _, _] := Y.junk _
            clear_value hv7
            intro hv8
            have Y : Sy _ _ hv8 [_, _, _, _, _, _, _, _, _, _] := ((((Y.stJ 9 rfl _ _).stJ 9 rfl _ _).stJ 9 rfl _ _).stJ 9 rfl _ _)
            clear_value hv8
            obtain ⟨Iv2, m2, T0, T1⟩ := T
            obtain ⟨B_3, hB_3, YB⟩ := Y.cut [0] [1, 2, 3, 4, 5, 6, 7, 8, 9] rfl
            obtain ⟨F_3, hF_3⟩ := Y.fnS (k := 0) rfl
            obtain ⟨JJ_2, hJJ_2⟩ : ∃ JJ_2 : Nat → List Value → Heap → Prop, JJ_2 = (fun k_2 lz h' => ∃ (x3 : Int) (r_2_2_3 : List Int), lz = [.int .i64 x3] ∧ Sy h [] h' ([F_3 r_2_2_3] ++ B_3) ∧ Iv2 x3 r_2_2_3 ∧ m2 x3 r_2_2_3 = k_2) := ⟨_, rfl⟩
            refine ⟨fun lz h' => ∃ k_2, JJ_2 k_2 lz h', Lm JJ_2, ?_, ?_⟩
            · subst hJJ_2 hB_3 hF_3
              exact ⟨_, _, _, rfl, YB, T0, rfl⟩
            · clear YB T0 Y
              intro x3 hv9 hI
              obtain ⟨k_2, hI, hm_2⟩ := loopIn hI
              subst hJJ_2 hB_3 hF_3
              obtain ⟨x3, r_2_2_3, e, Y, T, rfl⟩ := hI
              cases e
              replace T := T1 x3 r_2_2_3 T
              have Y : Sy _ _ _ [_, _, _, _, _, _, _, _, _, _] := Y
              refine cnd_imp T (fun T => ?_) (fun T => ?_)
              · obtain ⟨q_3, q_4, T⟩ := T
                obtain ⟨b_3, hb_2, ho_2, r_8, hx_2⟩ := Y.atS 5 rfl q_3 q_4
                refine ⟨b_3, 0, hb_2, q_3, q_4, ?_⟩
                replace T := T r_8 hx_2
                refine ⟨_, Y.cellS 5 rfl hb_2 (t := 0) hx_2 rfl, ?_⟩
                obtain ⟨q_5, q_6, T⟩ := T
                obtain ⟨b_4, hb_3, ho_3, r_9, hx_3⟩ := Y.atS 7 rfl q_5 q_6
                refine ⟨b_4, 0, hb_3, q_5, q_6, ?_⟩
                replace T := T r_9 hx_3
                refine ⟨_, Y.cellS 7 rfl hb_3 (t := 0) hx_3 rfl, ?_⟩
                obtain ⟨q_9, T⟩ := T
                refine ⟨q_9, ?_⟩
                obtain ⟨q_7, q_8, T⟩ := T
                obtain ⟨b_5, hb_4, ho_4, r_10, hx_4⟩ := Y.atS 0 rfl q_7 q_8
                refine ⟨b_5, 0, hb_4, q_7, q_8, ?_⟩
                refine ⟨(Y.neJ 0 9 rfl rfl rfl ho_4), Y.cellEx 0 rfl hb_4 (t := 0) (by omega) (by decide), Y.freeS 0 rfl hb_4 _, ?_⟩
                intro hv10
                have Y : Sy _ _ hv10 [_, _, _, _, _, _, _, _, _, _] := Y.st1 0 rfl hb_4 (Int.tmod r_9 (2 : Int)) (by omega) rfl
                clear_value hv10
                exact loopBack hm_2 ⟨_, _, rfl, Y.pick [0, 1, 2, 3, 4, 5, 6, 7, 8, 9] rfl, T.1, rfl⟩ T.2
              · obtain ⟨Iv3, m3, T0, T1⟩ := T
                obtain ⟨B_4, hB_4, YB⟩ := Y.cut [] [0, 1, 2, 3, 4, 5, 6, 7, 8, 9] rfl
                obtain ⟨JJ_3, hJJ_3⟩ : ∃ JJ_3 : Nat → List Value → Heap → Prop, JJ_3 = (fun k_3 lz h' => ∃ (x6 : Int), lz = [.int .i64 x6] ∧ Sy h [] h' ([] ++ B_4) ∧ Iv3 x6 ∧ m3 x6 = k_3) := ⟨_, rfl⟩
                refine ⟨fun lz h' => ∃ k_3, JJ_3 k_3 lz h', Lm JJ_3, ?_, ?_⟩
                · subst hJJ_3 hB_4
                  exact ⟨_, _, rfl, YB, T0, rfl⟩
                · clear YB T0 Y
                  intro x6 hv11 hI
                  obtain ⟨k_3, hI, hm_3⟩ := loopIn hI
                  subst hJJ_3 hB_4
                  obtain ⟨x6, e, Y, T, rfl⟩ := hI
                  cases e
                  replace T := T1 x6 T
                  have Y : Sy _ _ _ [_, _, _, _, _, _, _, _, _, _] := Y
                  refine cnd_imp T (fun T => ?_) (fun T => ?_)
                  · obtain ⟨q_10, q_11, T⟩ := T
                    obtain ⟨b_6, hb_5, ho_5, r_11, hx_5⟩ := Y.atS 5 rfl q_10 q_11
                    refine ⟨b_6, 0, hb_5, q_10, q_11, ?_⟩
                    replace T := T r_11 hx_5
                    refine ⟨_, Y.cellS 5 rfl hb_5 (t := 0) hx_5 rfl, ?_⟩
                    refine ⟨rB_2, 0, rfl, ?_⟩
                    refine ⟨_, _, _, Y.cellO 3 rfl 2 rfl, ?_⟩
                    obtain ⟨q_12, q_13, T⟩ := T
                    obtain ⟨b_7, hb_6, ho_6, x_2, hx_6, r_12, hr⟩ := Y.atR 4 rfl q_12 q_13
                    refine ⟨b_7, 0, hb_6, q_12, q_13, ?_⟩
                    replace T := T x_2 hx_6
                    refine ⟨_, _, _, Y.cellR 4 rfl hb_6 hr hx_6, ?_⟩
                    obtain ⟨Iv4, m4, T0, T1⟩ := T
                    obtain ⟨B_5, hB_5, YB⟩ := Y.cut [] [0, 1, 2, 3, 4, 5, 6, 7, 8, 9] rfl
                    obtain ⟨JJ_4, hJJ_4⟩ : ∃ JJ_4 : Nat → List Value → Heap → Prop, JJ_4 = (fun k_4 lz h' => ∃ (x8 : Int), lz = [.int .i64 x8] ∧ Sy h [] h' ([] ++ B_5) ∧ Iv4 x8 ∧ m4 x8 = k_4) := ⟨_, rfl⟩
                    refine ⟨fun lz h' => ∃ k_4, JJ_4 k_4 lz h', Lm JJ_4, ?_, ?_⟩
                    · subst hJJ_4 hB_5
                      exact ⟨_, _, rfl, YB, T0, rfl⟩
                    · clear YB T0 Y
                      intro x8 hv12 hI
                      obtain ⟨k_4, hI, hm_4⟩ := loopIn hI
                      subst hJJ_4 hB_5
                      obtain ⟨x8, e, Y, T, rfl⟩ := hI
                      cases e
                      replace T := T1 x8 T
                      have Y : Sy _ _ _ [_, _, _, _, _, _, _, _, _, _] := Y
                      refine cnd_imp T (fun T => ?_) (fun T => ?_)
                      · obtain ⟨q_14, q_15, T⟩ := T
                        obtain ⟨b_8, hb_7, ho_7, x_3, hx_7⟩ := Y.atRow 4 rfl hr hx_6 q_14 q_15
                        refine ⟨b_8, 0, hb_7, q_14, q_15, ?_⟩
                        replace T := T x_3 hx_7
                        refine ⟨_, Y.cellRow 4 rfl hr hx_6 hb_7 (t := 0) hx_7 rfl, ?_⟩
                        have Y0 := Y
                        have F : Fr [] hv12 hv12 := Fr.refl _ _
                        obtain ⟨q_16, q_17, T⟩ := T
                        obtain ⟨b_9, hb_8, ho_8, r_13, hx_8⟩ := Y0.atS 0 rfl q_16 q_17
                        refine ⟨b_9, 0, hb_8, q_16, q_17, ?_⟩
                        replace T := T r_13 hx_8
                        refine ⟨_, Y0.cellS 0 rfl hb_8 (t := 0) hx_8 rfl, ?_⟩
                        refine callX_sy (T _ _ _ _ _ _ _ _ _ _ (((Y.turn 3 rfl To.obvob).turn 4 rfl To.rowsv).pick [3, 1, 4] rfl).hp) (fun _ _ ⟨_, p, _⟩ => p.fr) (allc (fun h => by cases h) alln) ?_
                        rintro v5 hv13 ⟨r2, PP, rfl, T⟩
                        have F : Fr _ _ hv13 := F.trans PP.fr.nil
                        have fshv13 := F.size
                        have Y : Sy _ _ hv13 [_, _, _, _, _, _, _, _, _, _] := Y.gr PP.fr
                        clear PP
                        refine ⟨r2, rfl, ?_⟩
                        refine ⟨F, ?_⟩
                        obtain ⟨q_18, q_19, T⟩ := T
                        obtain ⟨b_10, hb_9, ho_9, r_14, hx_9⟩ := Y0.atS 0 rfl q_18 q_19
                        refine ⟨b_10, 0, hb_9, q_18, q_19, ?_⟩
                        replace T := T r_14 hx_9
                        refine ⟨_, Y0.cellS 0 rfl hb_9 (t := 0) hx_9 rfl, ?_⟩
                        refine cnd_imp T (fun T => ?_) (fun T => ?_)
                        · refine callX_sy (T _ _ _ _ _ _ _ _ _ _ _ _ _ _ _ _ _ _ _ _ _ _ (((((((Y.turn 3 rfl To.obvob).turn 4 rfl To.rowsv).turn 5 rfl To.slvw).turn 6 rfl To.slvw).turn 7 rfl To.slvw).turn 8 rfl To.slvw).pick [3, 1, 4, 5, 6, 7, 8] rfl).hp) (fun _ _ ⟨_, _, _, _, p, _⟩ => p.fr) (allc (fun h => by cases h) alln) ?_
                          rintro v6 hv14 ⟨rA6, rL6, rC6, r_15, PP, rfl, T⟩
                          have Y : Sy _ _ hv14 [_, _, _, _, _, _, _, _, _, _, _] := Y.callV PP ⟨rfl, trivial⟩
                          clear PP
                          obtain rfl := Y.lenS 10 rfl
                          refine ⟨_, _, _, rfl, ?_⟩
                          have Y : Sy _ _ _ [_, _, _, _, _, _, _, _, _, _, _, _] := Y.nilS eI 3
                          exact ⟨_, _, _, _, _, _, _, _, _, Y.pick [11, 10] rfl, rfl, T⟩
                        · exact loopBack hm_4 ⟨_, rfl, Y.pick [0, 1, 2, 3, 4, 5, 6, 7, 8, 9] rfl, T.1, rfl⟩ T.2
                      · exact loopBack hm_3 ⟨_, rfl, Y.pick [0, 1, 2, 3, 4, 5, 6, 7, 8, 9] rfl, T.1, rfl⟩ T.2
                  · exact ⟨_, rfl, Y.pick [0, 1, 2, 3, 4] rfl, T⟩
        · subst hB_2 hF_2
          clear T0 Y
          rintro hv15 ⟨r_2_2_2, e, Y, T⟩
          cases e
          replace T := T1 r_2_2_2 T
          have Y : Sy _ _ _ [_, _, _, _, _] := Y
          exact loopBack hm ⟨_, _, rfl, Y.pick [0, 1, 2, 3, 4] rfl, T.1, rfl⟩ T.2
      · have Y : Sy _ _ _ [_, _, _, _, _, _] := Y.nilS eI 3
        exact ⟨_, _, _, _, _, _, _, _, _, Y.pick [0, 5] rfl, rfl, T⟩
/-- (*tracery/walk.lay).without -/
def S183 (lP : Option Addr) (ev : Int) (s : Int) (t : Int) (h : Heap) (R : Value → Heap → Prop) : Prop :=
  ∃ b o, lP = some ⟨b, o, none⟩ ∧ ∃ x : Int, hcell h b o = some (.int .i64 x) ∧ callX Try.prog 178 #[.int .i64 x, .int .i64 (-1)] h [] fun v hv =>
  ∃ (rA : Option Addr) (rL rC : Nat), v = .slice rA rL rC ∧
  ∃ b2 o2, lP = some ⟨b2, o2, none⟩ ∧ ∃ x2 : Int, hcell hv b2 o2 = some (.int .i64 x2) ∧ 0 ≤ x2 ∧ x2 ≤ x2 ∧ ((1 : Nat) : Int) * x2 ≤ 281474976710656 ∧ x2 ≤ 9223372036854775807 ∧ let hv2 : Heap := hv.push (.cells (madeCells (List.toArray [.bool false]) (Int.toNat x2 * 1)) 4)
  ∃ b3 o3, (some (⟨hv.size, 0, none⟩ : Addr)) = some ⟨b3, o3, none⟩ ∧ 0 ≤ s ∧ s < ((Int.toNat x2) : Nat) ∧ (∃ u, hcell hv2 b3 (o3 + (Int.toNat s) * 1) = some u) ∧ hfree hv2 b3 (o3 + (Int.toNat s) * 1) = true ∧ let hv3 : Heap := hset hv2 b3 (o3 + (Int.toNat s) * 1) (.bool true)
  let hv4 : Heap := hv3.push (.cells #[.int .i64 s] 3)
  let K2 := fun (hv14 : Heap) =>
    (∃ b12 o12, (some (⟨hv.size, 0, none⟩ : Addr)) = some ⟨b12, o12, none⟩ ∧ 0 ≤ t ∧ t < ((Int.toNat x2) : Nat) ∧ ∃ x8 : Bool, hcell hv14 b12 (o12 + (Int.toNat t) * 1) = some (.bool x8) ∧ cnd (!x8)
      (R (.slice none 0 0) hv14)
      (∃ (Iv3 : List Value → Heap → Prop) (m3 : List Value → Heap → Nat), Iv3 [.slice none 0 0, .int .i64 t] hv14 ∧ -- loop 4: ['back', 'v']
      ∀ (backA : Option Addr) (backL backC : Nat), ∀ v3 : Int, ∀ hv15, Iv3 [.slice backA backL backC, .int .i64 v3] hv15 →
      cnd (v3 != s)
        (∃ b13 o13, rA = some ⟨b13, o13, none⟩ ∧ 0 ≤ v3 ∧ v3 < (rL : Nat) ∧ ∃ x9 : Int, hcell hv15 b13 (o13 + (Int.toNat v3) * 1) = some (.int .i64 x9) ∧ let hv16 : Heap := hv15.push (.cells #[.int .i64 x9] 3)
        ∃ old2, Ownd hv16 3 1 backA backL backC old2 ∧ (∀ b ∈ ([hv15.size] : List Nat), b ∉ blkOf backA) ∧ (backL + 1) * 8 ≤ 140737488355328 ∧ (backL + 1) ≤ maxLen ∧
        ∀ sA2 sC2 hv17, Ownd hv17 3 1 sA2 (backL + 1) sC2 (old2 ++ [.int .i64 x9]) → Fr (blkOf backA) hv16 hv17 → ((sA2 = backA ∧ sC2 = backC) ∨ ∃ g, sA2 = some ⟨g, 0, none⟩ ∧ hv16.size ≤ g) → (backC < (backL + 1) → Fr [] hv16 hv17) →
        ∃ b14 o14, rA = some ⟨b14, o14, none⟩ ∧ 0 ≤ v3 ∧ v3 < (rL : Nat) ∧ ∃ x10 : Int, hcell hv17 b14 (o14 + (Int.toNat v3) * 1) = some (.int .i64 x10) ∧ callX Try.prog 180 #[.pointer lP, .int .i64 (bits .xor .i64 x10 (1 : Int))] hv17 [hv15.size] fun v4 hv18 =>
        ∃ r2 : Int, v4 = .int .i64 r2 ∧
        Iv3 [.slice sA2 (backL + 1) sC2, .int .i64 r2] hv18 ∧ m3 [.slice sA2 (backL + 1) sC2, .int .i64 r2] hv18 < m3 [.slice backA backL backC, .int .i64 v3] hv15)
        (∃ (Iv4 : List Value → Heap → Prop) (m4 : List Value → Heap → Nat), Iv4 [.int .i64 0, .int .i64 (IntKind.i64.wrap (((backL : Nat) : Int) - (1 : Int)))] hv15 ∧ -- loop 6: ['i', 'k']
        ∀ i2 : Int, ∀ k : Int, ∀ hv19, Iv4 [.int .i64 i2, .int .i64 k] hv19 →
        cnd (decide (i2 < k))
          (∃ Mv : List Nat, (∀ b ∈ ([] : List Nat), b ∉ Mv) ∧
          ∃ b15 o15, backA = some ⟨b15, o15, none⟩ ∧ 0 ≤ k ∧ k < (backL : Nat) ∧ ∃ x11 : Int, hcell hv19 b15 (o15 + (Int.toNat k) * 1) = some (.int .i64 x11) ∧ ∃ b16 o16, backA = some ⟨b16, o16, none⟩ ∧ 0 ≤ i2 ∧ i2 < (backL : Nat) ∧ ∃ x12 : Int, hcell hv19 b16 (o16 + (Int.toNat i2) * 1) = some (.int .i64 x12) ∧ ∃ b17 o17, backA = some ⟨b17, o17, none⟩ ∧ 0 ≤ i2 ∧ i2 < (backL : Nat) ∧ (∃ u, hcell hv19 b17 (o17 + (Int.toNat i2) * 1) = some u) ∧ hfree hv19 b17 (o17 + (Int.toNat i2) * 1) = true ∧ let hv20 : Heap := hset hv19 b17 (o17 + (Int.toNat i2) * 1) (.int .i64 x11)
          Fr Mv hv19 hv20 ∧
          ∃ b18 o18, backA = some ⟨b18, o18, none⟩ ∧ 0 ≤ k ∧ k < (backL : Nat) ∧ (∃ u, hcell hv20 b18 (o18 + (Int.toNat k) * 1) = some u) ∧ hfree hv20 b18 (o18 + (Int.toNat k) * 1) = true ∧ let hv21 : Heap := hset hv20 b18 (o18 + (Int.toNat k) * 1) (.int .i64 x12)
          Fr Mv hv19 hv21 ∧
          Iv4 [.int .i64 (IntKind.i64.wrap (i2 + (1 : Int))), .int .i64 (IntKind.i64.wrap (k - (1 : Int)))] hv21 ∧ m4 [.int .i64 (IntKind.i64.wrap (i2 + (1 : Int))), .int .i64 (IntKind.i64.wrap (k - (1 : Int)))] hv21 < m4 [.int .i64 i2, .int .i64 k] hv19)
          (R (.slice backA backL backC) hv19))))
  ∃ (Iv : List Value → Heap → Prop) (m : List Value → Heap → Nat), Iv [.slice (some (⟨hv3.size, 0, none⟩ : Addr)) 1 1, .int .i64 0] hv4 ∧ -- loop 0: ['queue', 'i']
  ∀ (queueA : Option Addr) (queueL queueC : Nat), ∀ i : Int, ∀ hv5, Iv [.slice queueA queueL queueC, .int .i64 i] hv5 →
  cnd (decide (i < ((queueL : Nat) : Int)))
    (∃ b4 o4, (some (⟨hv.size, 0, none⟩ : Addr)) = some ⟨b4, o4, none⟩ ∧ 0 ≤ t ∧ t < ((Int.toNat x2) : Nat) ∧ ∃ x3 : Bool, hcell hv5 b4 (o4 + (Int.toNat t) * 1) = some (.bool x3) ∧ cnd (!x3)
      (∃ b5 o5, lP = some ⟨b5, o5, none⟩ ∧ ∃ (xA : Option Addr) (xL xC : Nat), hcell hv5 b5 (o5 + 2) = some (.slice xA xL xC) ∧ ∃ b6 o6, queueA = some ⟨b6, o6, none⟩ ∧ 0 ≤ i ∧ i < (queueL : Nat) ∧ ∃ x4 : Int, hcell hv5 b6 (o6 + (Int.toNat i) * 1) = some (.int .i64 x4) ∧ ∃ b7 o7, xA = some ⟨b7, o7, none⟩ ∧ 0 ≤ x4 ∧ x4 < (xL : Nat) ∧ ∃ (xA2 : Option Addr) (xL2 xC2 : Nat), hcell hv5 b7 (o7 + (Int.toNat x4) * 1) = some (.slice xA2 xL2 xC2) ∧ ∃ (Iv2 : List Value → Heap → Prop) (m2 : List Value → Heap → Nat), Iv2 [.slice queueA queueL queueC, .int .i64 0] hv5 ∧ -- loop 2: ['queue', '61']
      ∀ (queueA2 : Option Addr) (queueL2 queueC2 : Nat), ∀ x5 : Int, ∀ hv6, Iv2 [.slice queueA2 queueL2 queueC2, .int .i64 x5] hv6 →
      cnd (decide (x5 < ((xL2 : Nat) : Int)))
        (let K := fun (queueA4 : Option Addr) (queueL4 queueC4 : Nat) (hv13 : Heap) =>
          (Iv2 [.slice queueA4 queueL4 queueC4, .int .i64 (IntKind.i64.wrap (x5 + (1 : Int)))] hv13 ∧ m2 [.slice queueA4 queueL4 queueC4, .int .i64 (IntKind.i64.wrap (x5 + (1 : Int)))] hv13 < m2 [.slice queueA2 queueL2 queueC2, .int .i64 x5] hv6)
        ∃ b8 o8, xA2 = some ⟨b8, o8, none⟩ ∧ 0 ≤ x5 ∧ x5 < (xL2 : Nat) ∧ ∃ x6 : Int, hcell hv6 b8 (o8 + (Int.toNat x5) * 1) = some (.int .i64 x6) ∧ callX Try.prog 180 #[.pointer lP, .int .i64 x6] hv6 [] fun v2 hv7 =>
        ∃ r : Int, v2 = .int .i64 r ∧
        (2 : Int) ≠ 0 ∧ cnd ((IntKind.i64.wrap (Int.tdiv x6 (2 : Int))) != ev)
          (∃ b9 o9, (some (⟨hv.size, 0, none⟩ : Addr)) = some ⟨b9, o9, none⟩ ∧ 0 ≤ r ∧ r < ((Int.toNat x2) : Nat) ∧ ∃ x7 : Bool, hcell hv7 b9 (o9 + (Int.toNat r) * 1) = some (.bool x7) ∧ ∃ Jv : List Value → Heap → Prop, -- join 78 ['queue']
          ( cnd (!x7)
             (∃ b10 o10, (some (⟨hv.size, 0, none⟩ : Addr)) = some ⟨b10, o10, none⟩ ∧ 0 ≤ r ∧ r < ((Int.toNat x2) : Nat) ∧ (∃ u, hcell hv7 b10 (o10 + (Int.toNat r) * 1) = some u) ∧ hfree hv7 b10 (o10 + (Int.toNat r) * 1) = true ∧ let hv8 : Heap := hset hv7 b10 (o10 + (Int.toNat r) * 1) (.bool true)
             ∃ b11 o11, rA = some ⟨b11, o11, none⟩ ∧ 0 ≤ r ∧ r < (rL : Nat) ∧ (∃ u, hcell hv8 b11 (o11 + (Int.toNat r) * 1) = some u) ∧ hfree hv8 b11 (o11 + (Int.toNat r) * 1) = true ∧ let hv9 : Heap := hset hv8 b11 (o11 + (Int.toNat r) * 1) (.int .i64 x6)
             let hv10 : Heap := hv9.push (.cells #[.int .i64 r] 3)
             ∃ old, Ownd hv10 3 1 queueA2 queueL2 queueC2 old ∧ (∀ b ∈ ([hv9.size] : List Nat), b ∉ blkOf queueA2) ∧ (queueL2 + 1) * 8 ≤ 140737488355328 ∧ (queueL2 + 1) ≤ maxLen ∧
             ∀ sA sC hv11, Ownd hv11 3 1 sA (queueL2 + 1) sC (old ++ [.int .i64 r]) → Fr (blkOf queueA2) hv10 hv11 → ((sA = queueA2 ∧ sC = queueC2) ∨ ∃ g, sA = some ⟨g, 0, none⟩ ∧ hv10.size ≤ g) → (queueC2 < (queueL2 + 1) → Fr [] hv10 hv11) →
             Jv [.slice sA (queueL2 + 1) sC] hv11)
             (Jv [.slice queueA2 queueL2 queueC2] hv7)) ∧
          ∀ (queueA3 : Option Addr) (queueL3 queueC3 : Nat), ∀ hv12, Jv [.slice queueA3 queueL3 queueC3] hv12 →
          K queueA3 queueL3 queueC3 hv12)
          (K queueA2 queueL2 queueC2 hv7))
        (Iv [.slice queueA2 queueL2 queueC2, .int .i64 (IntKind.i64.wrap (i + (1 : Int)))] hv6 ∧ m [.slice queueA2 queueL2 queueC2, .int .i64 (IntKind.i64.wrap (i + (1 : Int)))] hv6 < m [.slice queueA queueL queueC, .int .i64 i] hv5))
      (K2 hv5))
    (K2 hv5)
theorem calls183 {h : Heap} {R : Value → Heap → Prop} (lP : Option Addr) (ev : Int) (s : Int) (t : Int) (H : S183 lP ev s t h R) : CallsH Try.prog 183 #[.pointer lP, .int .i64 ev, .int .i64 s, .int .i64 t] h R := by
  have e : S183 lP ev s t h R = FX (envX [88, 112] 139) { loops := [(0, ⟨[0, 1, 2, 3, 9, 10], [11, 12], [], []⟩), (2, ⟨[0, 1, 2, 3, 9, 10, 12, 59, 60], [11, 61], [], []⟩), (4, ⟨[0, 2, 9], [16, 17], [], []⟩), (6, ⟨[16], [18, 19], [], []⟩)], joins := [(78, ⟨[0, 1, 2, 3, 9, 10, 12, 59, 60, 61], [11], [], []⟩)], blocks := [], draws := [(8, ⟨12, false⟩), (26, ⟨16, true⟩)] } Try.f183 (Try.f183.body.getD .skip) [.pointer lP, .int .i64 ev, .int .i64 s, .int .i64 t] h R := by kernel_rfl
  exact calls_of_FX (envX_ok _ _) Try.func183 (by kernel_rfl) (by kernel_rfl) (by kernel_rfl) (e ▸ H)
/-- (*tracery/walk.lay).without -/
def Ok183 (nV : Int) (edgesV : List (Int × Int)) (outV : List (List Int)) (ev : Int) (s : Int) (t : Int) (R : List Int → Bool → Prop) : Prop :=
  ∀ (h : Heap) (lB lO : Nat) (edgesVA : Option Addr) (edgesVL edgesVC : Nat) (outVA : Option Addr) (outVL outVC : Nat) (outH : List RowH), Hp h [Ck.vob lB lO [.int .i64 nV, .slice edgesVA edgesVL edgesVC, .slice outVA outVL outVC], Ck.vw eP edgesVA edgesVL edgesVC edgesV, Ck.vrows eI outVA outVL outVC outH outV] → CallsH Try.prog 183 #[.pointer (some ⟨lB, lO, none⟩), .int .i64 ev, .int .i64 s, .int .i64 t] h fun v h' => ∃ (rVA : Option Addr) (rVL rVC : Nat) (rV : List Int) (rN : Bool), Sy h [] h' [Ck.sl eI 3 rVA rVL rVC rV] ∧ v = .slice rVA rVL rVC ∧ Option.isNone rVA = rN ∧ R rV rN
theorem Ok183.mono {nV edgesV outV ev s t} {R R' : List Int → Bool → Prop} (H : Ok183 nV edgesV outV ev s t R) (kz : ∀ rV rN, R rV rN → R' rV rN) : Ok183 nV edgesV outV ev s t R' :=
  fun h lB lO edgesVA edgesVL edgesVC outVA outVL outVC outH hp => (H h lB lO edgesVA edgesVL edgesVC outVA outVL outVC outH hp).mono fun _ _ ⟨rVA, rVL, rVC, rV, rN, P, e, w0, q⟩ => ⟨rVA, rVL, rVC, rV, rN, P, e, w0, kz _ _ q⟩
def T183 (nV : Int) (edgesV : List (Int × Int)) (outV : List (List Int)) (ev : Int) (s : Int) (t : Int) (R : List Int → Bool → Prop) : Prop :=
  Ok178 nV (-1) (fun r_2 =>
  0 ≤ nV ∧ nV ≤ 1000000000000 ∧ 0 ≤ s ∧ s < (((Int.toNat nV) : Nat) : Int) ∧ ∃ Jv_2 : List Int → List Bool → Prop,
  ( ∃ (Iv : List Int → Int → List Int → List Bool → Prop) (m : List Int → Int → List Int → List Bool → Nat), Iv ([s] : List Int) 0 r_2 ((List.replicate (Int.toNat nV) false).set (Int.toNat s) true) ∧
   ∀ queue : List Int, ∀ i : Int, ∀ r_2_3 : List Int, ∀ x_5 : List Bool, Iv queue i r_2_3 x_5 →
   cnd (decide (i < ((queue.length : Nat) : Int)))
     (0 ≤ t ∧ t < (((Int.toNat nV) : Nat) : Int) ∧ ∀ x_6 : Bool, x_5[(Int.toNat t)]? = some x_6 → cnd (!x_6)
       (0 ≤ i ∧ i < ((queue.length : Nat) : Int) ∧ ∀ queue_2 : Int, queue[(Int.toNat i)]? = some queue_2 → 0 ≤ queue_2 ∧ queue_2 < ((outV.length : Nat) : Int) ∧ ∀ x_7 : List Int, outV[(Int.toNat queue_2)]? = some x_7 → ∃ (Iv2 : List Int → Int → List Int → List Bool → Prop) (m2 : List Int → Int → List Int → List Bool → Nat), Iv2 queue 0 r_2_3 x_5 ∧
       ∀ queue_3 : List Int, ∀ x5 : Int, ∀ r_2_3_2 : List Int, ∀ x_5_2 : List Bool, Iv2 queue_3 x5 r_2_3_2 x_5_2 →
       cnd (decide (x5 < ((x_7.length : Nat) : Int)))
         (∃ Jv_3 : List Int → List Int → List Bool → Prop,
         ( 0 ≤ x5 ∧ x5 < ((x_7.length : Nat) : Int) ∧ ∀ x_8 : Int, x_7[(Int.toNat x5)]? = some x_8 → Ok180 nV edgesV outV x_8 (fun r =>
          (2 : Int) ≠ 0 ∧ cnd ((IntKind.i64.wrap (Int.tdiv x_8 (2 : Int))) != ev)
            (0 ≤ r ∧ r < (((Int.toNat nV) : Nat) : Int) ∧ ∀ x_9 : Bool, x_5_2[(Int.toNat r)]? = some x_9 → ∃ Jv : List Int → List Int → List Bool → Prop,
            ( cnd (!x_9)
               (0 ≤ r ∧ r < ((r_2.length : Nat) : Int) ∧ (queue_3.length + 1) < 1000000000000 ∧ Jv (queue_3 ++ [r]) (r_2_3_2.set (Int.toNat r) x_8) (x_5_2.set (Int.toNat r) true))
               (Jv queue_3 r_2_3_2 x_5_2)) ∧
            ∀ queue_5 : List Int, ∀ r_2_3_2_3 : List Int, ∀ x_5_2_3 : List Bool, Jv queue_5 r_2_3_2_3 x_5_2_3 →
            Jv_3 queue_5 r_2_3_2_3 x_5_2_3)
            (Jv_3 queue_3 r_2_3_2 x_5_2))) ∧
         ∀ queue_4 : List Int, ∀ r_2_3_2_2 : List Int, ∀ x_5_2_2 : List Bool, Jv_3 queue_4 r_2_3_2_2 x_5_2_2 →
         Iv2 queue_4 (IntKind.i64.wrap (x5 + (1 : Int))) r_2_3_2_2 x_5_2_2 ∧ m2 queue_4 (IntKind.i64.wrap (x5 + (1 : Int))) r_2_3_2_2 x_5_2_2 < m2 queue_3 x5 r_2_3_2 x_5_2)
         (Iv queue_3 (IntKind.i64.wrap (i + (1 : Int))) r_2_3_2 x_5_2 ∧ m queue_3 (IntKind.i64.wrap (i + (1 : Int))) r_2_3_2 x_5_2 < m queue i r_2_3 x_5))
       (Jv_2 r_2_3 x_5))
     (Jv_2 r_2_3 x_5)) ∧
  ∀ r_2_2 : List Int, ∀ x_3 : List Bool, Jv_2 r_2_2 x_3 →
  0 ≤ t ∧ t < (((Int.toNat nV) : Nat) : Int) ∧ ∀ x_4 : Bool, x_3[(Int.toNat t)]? = some x_4 → cnd (!x_4)
    (R ([] : List Int) true)
    (∃ (Iv3 : List Int → Int → Prop) (m3 : List Int → Int → Nat), Iv3 ([] : List Int) t ∧
    ∀ back : List Int, ∀ v3 : Int, Iv3 back v3 →
    cnd (v3 != s)
      (0 ≤ v3 ∧ v3 < ((r_2.length : Nat) : Int) ∧ ∀ r_3 : Int, r_2_2[(Int.toNat v3)]? = some r_3 → (back.length + 1) < 1000000000000 ∧ Ok180 nV edgesV outV (bits .xor .i64 r_3 (1 : Int)) (fun r2 =>
      Iv3 (back ++ [r_3]) r2 ∧ m3 (back ++ [r_3]) r2 < m3 back v3))
      (∃ (Iv4 : Int → Int → List Int → Prop) (m4 : Int → Int → List Int → Nat), Iv4 0 (IntKind.i64.wrap (((back.length : Nat) : Int) - (1 : Int))) back ∧
      ∀ i2 : Int, ∀ k : Int, ∀ back_2 : List Int, Iv4 i2 k back_2 →
      cnd (decide (i2 < k))
        (0 ≤ k ∧ k < ((back.length : Nat) : Int) ∧ ∀ back_3 : Int, back_2[(Int.toNat k)]? = some back_3 → 0 ≤ i2 ∧ i2 < ((back.length : Nat) : Int) ∧ ∀ back_4 : Int, back_2[(Int.toNat i2)]? = some back_4 → Iv4 (IntKind.i64.wrap (i2 + (1 : Int))) (IntKind.i64.wrap (k - (1 : Int))) ((back_2.set (Int.toNat i2) back_3).set (Int.toNat k) back_4) ∧ m4 (IntKind.i64.wrap (i2 + (1 : Int))) (IntKind.i64.wrap (k - (1 : Int))) ((back_2.set (Int.toNat i2) back_3).set (Int.toNat k) back_4) < m4 i2 k back_2)
        (∀ nl : Bool, (nl = true → back.length = 0) → R back_2 nl))))
theorem ok183 {nV edgesV outV ev s t} {R : List Int → Bool → Prop} (T : T183 nV edgesV outV ev s t R) : Ok183 nV edgesV outV ev s t R := by
  intro h lB lO edgesVA edgesVL edgesVC outVA outVL outVC outH H
  have Y : Sy h [] h _ := Sy.startM H rfl
  obtain rfl := Y.lenV 1 rfl
  obtain rfl := Y.lenW 2 rfl
  apply calls183
  unfold S183
  unfold T183 at T
  refine ⟨lB, lO, rfl, ?_⟩
  refine ⟨_, Y.cellW 0 rfl 0 rfl, ?_⟩
  refine callX_sy (T _ (Hp.nil _)) (fun _ _ ⟨_, _, _, _, p, _⟩ => p.fr) alln ?_
  rintro v hv ⟨rA, rL, rC, r_2, PP, rfl, T⟩
  have Y : Sy _ _ hv [_, _, _, _] := Y.callV PP ⟨rfl, trivial⟩
  clear PP
  obtain rfl := Y.lenS 3 rfl
  refine ⟨_, _, _, rfl, ?_⟩
  refine ⟨lB, lO, rfl, ?_⟩
  refine ⟨_, Y.cellW 0 rfl 0 rfl, ?_⟩
  obtain ⟨q, q_3, T⟩ := T
  refine ⟨q, Int.le_refl _, by omega, by omega, ?_⟩
  intro hv2
  have Y : Sy _ _ hv2 [_, _, _, _, _] := Y.mkS (E := eB) (ty := 4) false (Int.toNat nV) (Int.toNat nV) (Nat.le_refl _) (by simp [maxLen]; omega)
  clear_value hv2
  obtain ⟨q_4, q_5, T⟩ := T
  obtain ⟨b_2, hb, ho, x_2, hx⟩ := Y.atS 4 rfl q_4 q_5
  refine ⟨b_2, 0, hb, q_4, q_5, ?_⟩
  refine ⟨Y.cellEx 4 rfl hb (t := 0) (by omega) (by decide), Y.freeS 4 rfl hb _, ?_⟩
  intro hv3
  have Y : Sy _ _ hv3 [_, _, _, _, _] := Y.st1 4 rfl hb true (by omega) rfl
  clear_value hv3
  intro hv4
  have Y : Sy _ _ hv4 [_, _, _, _, _, _] := Y.litS (E := eI) (ty := 3) ([s] : List Int) rfl (by simp [maxLen])
  clear_value hv4
  obtain ⟨Jv_2, T0, T1⟩ := T
  obtain ⟨B, hB, _⟩ := Y.cut [] [0, 1, 2] rfl
  obtain ⟨F, hF⟩ := Y.fnS (k := 3) rfl
  obtain ⟨F_2, hF_2⟩ := Y.fnS (k := 4) rfl
  intro K2
  have hK2 : ∀  (hv14 : Heap), (∃ (r_2_2 : List Int) (x_3 : List Bool), Sy h [] hv14 ([F r_2_2, F_2 x_3] ++ B) ∧ Jv_2 r_2_2 x_3) → K2 hv14 := by
    subst hB hF hF_2
    clear T0 Y
    rintro hv14 ⟨r_2_2, x_3, Y, T⟩
    replace T := T1 r_2_2 x_3 T
    have Y : Sy _ _ _ [_, _, _, _, _] := Y
    unfold K2
    obtain ⟨q_6, q_7, T⟩ := T
    obtain ⟨b_3, hb_2, ho_2, x_4, hx_2⟩ := Y.atS 1 rfl q_6 q_7
    refine ⟨b_3, 0, hb_2, q_6, q_7, ?_⟩
    replace T := T x_4 hx_2
    refine ⟨_, Y.cellS 1 rfl hb_2 (t := 0) hx_2 rfl, ?_⟩
    refine cnd_imp T (fun T => ?_) (fun T => ?_)
    · have Y : Sy _ _ _ [_, _, _, _, _, _] := Y.nilS eI 3
      exact ⟨_, _, _, _, _, Y.pick [5] rfl, rfl, rfl, T⟩
    · have Y : Sy _ _ _ [_, _, _, _, _, _] := Y.nilS eI 3
      obtain ⟨Iv3, m3, T0, T1⟩ := T
      obtain ⟨B_2, hB_2, YB⟩ := Y.cut [5] [0, 1, 2, 3, 4] rfl
      obtain ⟨JJ, hJJ⟩ : ∃ JJ : Nat → List Value → Heap → Prop, JJ = (fun k_2 lz h' => ∃ (backA : Option Addr) (backL backC : Nat) (back : List Int) (v3 : Int), lz = [.slice backA backL backC, .int .i64 v3] ∧ Sy h [] h' ([Ck.sl eI 3 backA backL backC back] ++ B_2) ∧ Iv3 back v3 ∧ m3 back v3 = k_2) := ⟨_, rfl⟩
      refine ⟨fun lz h' => ∃ k_2, JJ k_2 lz h', Lm JJ, ?_, ?_⟩
      · subst hJJ hB_2
        exact ⟨_, _, _, _, _, _, rfl, YB, T0, rfl⟩
      · clear YB T0 Y
        intro backA backL backC v3 hv15 hI
        obtain ⟨k_2, hI, hm⟩ := loopIn hI
        subst hJJ hB_2
        obtain ⟨backA, backL, backC, back, v3, e, Y, T, rfl⟩ := hI
        cases e
        obtain rfl := Y.lenS 0 rfl
        replace T := T1 back v3 T
        have Y : Sy _ _ _ [_, _, _, _, _, _] := Y
        refine cnd_imp T (fun T => ?_) (fun T => ?_)
        · obtain ⟨q_8, q_9, T⟩ := T
          obtain ⟨b_4, hb_3, ho_3, r_3, hx_3⟩ := Y.atS 1 rfl q_8 q_9
          refine ⟨b_4, 0, hb_3, q_8, q_9, ?_⟩
          replace T := T r_3 hx_3
          refine ⟨_, Y.cellS 1 rfl hb_3 (t := 0) hx_3 rfl, ?_⟩
          intro hv16
          have Y : Sy _ _ hv16 [_, _, _, _, _, _, _] := Y.junk _
          clear_value hv16
          obtain ⟨q_10, T⟩ := T
          refine ⟨_, Y.ownS 0 rfl, (allc (Y.nJ 0 6 rfl rfl rfl) alln), by first | exact appB q_10 (by decide) | omega, by first | exact appM q_10 | (simp [maxLen]; omega), ?_⟩
          intro sA2 sC2 hv17 ow fA gA gB
          have Y : Sy _ _ hv17 [_, _, _, _, _, _, _] := Y.appS 0 rfl ([r_3] : List Int) ow fA gA rfl rfl
          refine ⟨b_4, 0, hb_3, q_8, q_9, ?_⟩
          refine ⟨_, Y.cellS 1 rfl hb_3 (t := 0) hx_3 rfl, ?_⟩
          refine callX_sy (T _ _ _ _ _ _ _ _ _ _ (Y.pick [3, 4, 5] rfl).hp) (fun _ _ ⟨_, p, _⟩ => p.fr) (allc (fun h => by cases h) alln) ?_
          rintro v4 hv18 ⟨r2, PP, rfl, T⟩
          have Y : Sy _ _ hv18 [_, _, _, _, _, _, _] := Y.gr PP.fr
          clear PP
          refine ⟨r2, rfl, ?_⟩
          exact loopBack hm ⟨_, _, _, _, _, rfl, Y.pick [0, 1, 2, 3, 4, 5] rfl, T.1, rfl⟩ T.2
        · obtain ⟨Iv4, m4, T0, T1⟩ := T
          obtain ⟨B_3, hB_3, YB⟩ := Y.cut [0] [1, 2, 3, 4, 5] rfl
          obtain ⟨F_3, hF_3⟩ := Y.fnS (k := 0) rfl
          obtain ⟨JJ_2, hJJ_2⟩ : ∃ JJ_2 : Nat → List Value → Heap → Prop, JJ_2 = (fun k_3 lz h' => ∃ (i2 : Int) (k : Int) (back_2 : List Int), lz = [.int .i64 i2, .int .i64 k] ∧ Sy h [] h' ([F_3 back_2] ++ B_3) ∧ Iv4 i2 k back_2 ∧ m4 i2 k back_2 = k_3) := ⟨_, rfl⟩
          refine ⟨fun lz h' => ∃ k_3, JJ_2 k_3 lz h', Lm JJ_2, ?_, ?_⟩
          · subst hJJ_2 hB_3 hF_3
            exact ⟨_, _, _, _, rfl, YB, T0, rfl⟩
          · clear YB T0 Y
            intro i2 k hv19 hI
            obtain ⟨k_3, hI, hm_2⟩ := loopIn hI
            subst hJJ_2 hB_3 hF_3
            obtain ⟨i2, k, back_2, e, Y, T, rfl⟩ := hI
            cases e
            replace T := T1 i2 k back_2 T
            have Y : Sy _ _ _ [_, _, _, _, _, _] := Y
            refine cnd_imp T (fun T => ?_) (fun T => ?_)
            · have Y0 := Y
              obtain ⟨Mx, hMx⟩ := Y.mt [0] []
              refine ⟨Mx, ?_⟩
              subst hMx
              refine ⟨alln, ?_⟩
              have F : Fr _ hv19 hv19 := Y0.frM [0] []
              obtain ⟨q_11, q_12, T⟩ := T
              obtain ⟨b_5, hb_4, ho_4, back_3, hx_4⟩ := Y0.atS 0 rfl q_11 q_12
              refine ⟨b_5, 0, hb_4, q_11, q_12, ?_⟩
              replace T := T back_3 hx_4
              refine ⟨_, Y0.cellS 0 rfl hb_4 (t := 0) hx_4 rfl, ?_⟩
              obtain ⟨q_13, q_14, T⟩ := T
              obtain ⟨b_6, hb_5, ho_5, back_4, hx_5⟩ := Y0.atS 0 rfl q_13 q_14
              refine ⟨b_6, 0, hb_5, q_13, q_14, ?_⟩
              replace T := T back_4 hx_5
              refine ⟨_, Y0.cellS 0 rfl hb_5 (t := 0) hx_5 rfl, ?_⟩
              refine ⟨b_6, 0, hb_5, q_13, q_14, ?_⟩
              refine ⟨Y.cellEx 0 rfl hb_5 (t := 0) (by omega) (by decide), Y.freeS 0 rfl hb_5 _, ?_⟩
              intro hv20
              have Y : Sy _ _ hv20 [_, _, _, _, _, _] := Y.st1 0 rfl hb_5 back_3 (by omega) rfl
              have F : Fr _ _ hv20 := (F.hsetM (Y0.inMo 0 [0] [] rfl rfl _ ho_5))
              have fshv20 := F.size
              clear_value hv20
              refine ⟨F, ?_⟩
              refine ⟨b_5, 0, hb_4, q_11, q_12, ?_⟩
              refine ⟨Y.cellEx 0 rfl hb_4 (t := 0) (by omega) (by decide), Y.freeS 0 rfl hb_4 _, ?_⟩
              intro hv21
              have Y : Sy _ _ hv21 [_, _, _, _, _, _] := Y.st1 0 rfl hb_4 back_4 (by omega) rfl
              have F : Fr _ _ hv21 := (F.hsetM (Y0.inMo 0 [0] [] rfl rfl _ ho_4))
              have fshv21 := F.size
              clear_value hv21
              refine ⟨F, ?_⟩
              exact loopBack hm_2 ⟨_, _, _, rfl, Y.pick [0, 1, 2, 3, 4, 5] rfl, T.1, rfl⟩ T.2
            · obtain ⟨nl, hnl⟩ : ∃ b, Option.isNone backA = b := ⟨_, rfl⟩
              replace T := T nl (fun e => (Y.nilSl 0 rfl) (hnl.trans e))
              exact ⟨_, _, _, _, _, Y.pick [0] rfl, rfl, hnl, T⟩
  subst hB hF hF_2
  replace T := T0
  clear T0 T1
  obtain ⟨Iv, m, T0, T1⟩ := T
  obtain ⟨B_4, hB_4, YB⟩ := Y.cut [5, 3, 4] [0, 1, 2] rfl
  obtain ⟨F_4, hF_4⟩ := Y.fnS (k := 3) rfl
  obtain ⟨F_5, hF_5⟩ := Y.fnS (k := 4) rfl
  obtain ⟨JJ_3, hJJ_3⟩ : ∃ JJ_3 : Nat → List Value → Heap → Prop, JJ_3 = (fun k_4 lz h' => ∃ (queueA : Option Addr) (queueL queueC : Nat) (queue : List Int) (i : Int) (r_2_3 : List Int) (x_5 : List Bool), lz = [.slice queueA queueL queueC, .int .i64 i] ∧ Sy h [] h' ([Ck.sl eI 3 queueA queueL queueC queue, F_4 r_2_3, F_5 x_5] ++ B_4) ∧ Iv queue i r_2_3 x_5 ∧ m queue i r_2_3 x_5 = k_4) := ⟨_, rfl⟩
  refine ⟨fun lz h' => ∃ k_4, JJ_3 k_4 lz h', Lm JJ_3, ?_, ?_⟩
  · subst hJJ_3 hB_4 hF_4 hF_5
    exact ⟨_, _, _, _, _, _, _, _, rfl, YB, T0, rfl⟩
  · clear YB T0 Y
    intro queueA queueL queueC i hv5 hI
    obtain ⟨k_4, hI, hm_3⟩ := loopIn hI
    subst hJJ_3 hB_4 hF_4 hF_5
    obtain ⟨queueA, queueL, queueC, queue, i, r_2_3, x_5, e, Y, T, rfl⟩ := hI
    cases e
    obtain rfl := Y.lenS 0 rfl
    replace T := T1 queue i r_2_3 x_5 T
    have Y : Sy _ _ _ [_, _, _, _, _, _] := Y
    refine cnd_imp T (fun T => ?_) (fun T => ?_)
    · obtain ⟨q_15, q_16, T⟩ := T
      obtain ⟨b_7, hb_6, ho_6, x_6, hx_6⟩ := Y.atS 2 rfl q_15 q_16
      refine ⟨b_7, 0, hb_6, q_15, q_16, ?_⟩
      replace T := T x_6 hx_6
      refine ⟨_, Y.cellS 2 rfl hb_6 (t := 0) hx_6 rfl, ?_⟩
      refine cnd_imp T (fun T => ?_) (fun T => ?_)
      · have Y0 := Y
        have F : Fr [] hv5 hv5 := Fr.refl _ _
        refine ⟨lB, lO, rfl, ?_⟩
        refine ⟨_, _, _, Y0.cellW 3 rfl 2 rfl, ?_⟩
        obtain ⟨q_17, q_18, T⟩ := T
        obtain ⟨b_8, hb_7, ho_7, queue_2, hx_7⟩ := Y0.atS 0 rfl q_17 q_18
        refine ⟨b_8, 0, hb_7, q_17, q_18, ?_⟩
        replace T := T queue_2 hx_7
        refine ⟨_, Y0.cellS 0 rfl hb_7 (t := 0) hx_7 rfl, ?_⟩
        obtain ⟨q_19, q_20, T⟩ := T
        obtain ⟨b_9, o_2, hb_8, hr_2, x_7, hx_8, r_4, hr⟩ := Y0.atW 5 rfl q_19 q_20
        refine ⟨b_9, o_2, hb_8, q_19, q_20, ?_⟩
        replace T := T x_7 hx_8
        refine ⟨_, _, _, Y0.cellWR 5 rfl hb_8 hr hx_8, ?_⟩
        obtain ⟨Iv2, m2, T0, T1⟩ := T
        obtain ⟨B_5, hB_5, YB⟩ := Y.cut [0, 1, 2] [3, 4, 5] rfl
        obtain ⟨F_6, hF_6⟩ := Y.fnS (k := 1) rfl
        obtain ⟨F_7, hF_7⟩ := Y.fnS (k := 2) rfl
        obtain ⟨JJ_4, hJJ_4⟩ : ∃ JJ_4 : Nat → List Value → Heap → Prop, JJ_4 = (fun k_5 lz h' => ∃ (queueA2 : Option Addr) (queueL2 queueC2 : Nat) (queue_3 : List Int) (x5 : Int) (r_2_3_2 : List Int) (x_5_2 : List Bool), lz = [.slice queueA2 queueL2 queueC2, .int .i64 x5] ∧ Sy h [] h' ([Ck.sl eI 3 queueA2 queueL2 queueC2 queue_3, F_6 r_2_3_2, F_7 x_5_2] ++ B_5) ∧ Iv2 queue_3 x5 r_2_3_2 x_5_2 ∧ m2 queue_3 x5 r_2_3_2 x_5_2 = k_5) := ⟨_, rfl⟩
        refine ⟨fun lz h' => ∃ k_5, JJ_4 k_5 lz h', Lm JJ_4, ?_, ?_⟩
        · subst hJJ_4 hB_5 hF_6 hF_7
          exact ⟨_, _, _, _, _, _, _, _, rfl, YB, T0, rfl⟩
        · clear YB T0 Y
          intro queueA2 queueL2 queueC2 x5 hv6 hI
          obtain ⟨k_5, hI, hm_4⟩ := loopIn hI
          subst hJJ_4 hB_5 hF_6 hF_7
          obtain ⟨queueA2, queueL2, queueC2, queue_3, x5, r_2_3_2, x_5_2, e, Y, T, rfl⟩ := hI
          cases e
          obtain rfl := Y.lenS 0 rfl
          replace T := T1 queue_3 x5 r_2_3_2 x_5_2 T
          have Y : Sy _ _ _ [_, _, _, _, _, _] := Y
          refine cnd_imp T (fun T => ?_) (fun T => ?_)
          · obtain ⟨Jv_3, T0, T1⟩ := T
            obtain ⟨B_6, hB_6, _⟩ := Y.cut [] [3, 4, 5] rfl
            obtain ⟨F_8, hF_8⟩ := Y.fnS (k := 1) rfl
            obtain ⟨F_9, hF_9⟩ := Y.fnS (k := 2) rfl
            intro K
            have hK : ∀ (queueA4 : Option Addr) (queueL4 queueC4 : Nat) (hv13 : Heap), (∃ (queue_4 : List Int) (r_2_3_2_2 : List Int) (x_5_2_2 : List Bool), Sy h [] hv13 ([Ck.sl eI 3 queueA4 queueL4 queueC4 queue_4, F_8 r_2_3_2_2, F_9 x_5_2_2] ++ B_6) ∧ Jv_3 queue_4 r_2_3_2_2 x_5_2_2) → K queueA4 queueL4 queueC4 hv13 := by
              subst hB_6 hF_8 hF_9
              clear T0 Y
              rintro queueA4 queueL4 queueC4 hv13 ⟨queue_4, r_2_3_2_2, x_5_2_2, Y, T⟩
              obtain rfl := Y.lenS 0 rfl
              replace T := T1 queue_4 r_2_3_2_2 x_5_2_2 T
              have Y : Sy _ _ _ [_, _, _, _, _, _] := Y
              unfold K
              exact loopBack hm_4 ⟨_, _, _, _, _, _, _, rfl, Y.pick [0, 1, 2, 3, 4, 5] rfl, T.1, rfl⟩ T.2
            subst hB_6 hF_8 hF_9
            replace T := T0
            clear T0 T1
            obtain ⟨q_21, q_22, T⟩ := T
            obtain ⟨b_10, o_3, hb_9, hr_3, x_8, hx_9⟩ := Y.atRowW 5 rfl hr hx_8 q_21 q_22
            refine ⟨b_10, o_3, hb_9, q_21, q_22, ?_⟩
            replace T := T x_8 hx_9
            refine ⟨_, Y.cellRowW 5 rfl hr hx_8 hb_9 (t := 0) hx_9 rfl, ?_⟩
            refine callX_sy (T _ _ _ _ _ _ _ _ _ _ (Y.pick [3, 4, 5] rfl).hp) (fun _ _ ⟨_, p, _⟩ => p.fr) alln ?_
            rintro v2 hv7 ⟨r, PP, rfl, T⟩
            have Y : Sy _ _ hv7 [_, _, _, _, _, _] := Y.gr PP.fr
            clear PP
            refine ⟨r, rfl, ?_⟩
            obtain ⟨q_28, T⟩ := T
            refine ⟨q_28, ?_⟩
            refine cnd_imp T (fun T => ?_) (fun T => ?_)
            · obtain ⟨q_23, q_24, T⟩ := T
              obtain ⟨b_11, hb_10, ho_8, x_9, hx_10⟩ := Y.atS 2 rfl q_23 q_24
              refine ⟨b_11, 0, hb_10, q_23, q_24, ?_⟩
              replace T := T x_9 hx_10
              refine ⟨_, Y.cellS 2 rfl hb_10 (t := 0) hx_10 rfl, ?_⟩
              obtain ⟨Jv, T0, T1⟩ := T
              obtain ⟨B_7, hB_7, _⟩ := Y.cut [] [3, 4, 5] rfl
              obtain ⟨F_10, hF_10⟩ := Y.fnS (k := 1) rfl
              obtain ⟨F_11, hF_11⟩ := Y.fnS (k := 2) rfl
              refine ⟨fun lz h' => ∃ (queueA3 : Option Addr) (queueL3 queueC3 : Nat) (queue_5 : List Int) (r_2_3_2_3 : List Int) (x_5_2_3 : List Bool), lz = [.slice queueA3 queueL3 queueC3] ∧ Sy h [] h' ([Ck.sl eI 3 queueA3 queueL3 queueC3 queue_5, F_10 r_2_3_2_3, F_11 x_5_2_3] ++ B_7) ∧ Jv queue_5 r_2_3_2_3 x_5_2_3, ?_, ?_⟩
              · subst hB_7 hF_10 hF_11
                replace T := T0
                clear T0 T1
                refine cnd_imp T (fun T => ?_) (fun T => ?_)
                · refine ⟨b_11, 0, hb_10, q_23, q_24, ?_⟩
                  refine ⟨Y.cellEx 2 rfl hb_10 (t := 0) (by omega) (by decide), Y.freeS 2 rfl hb_10 _, ?_⟩
                  intro hv8
                  have Y : Sy _ _ hv8 [_, _, _, _, _, _] := Y.st1 2 rfl hb_10 true (by omega) rfl
                  clear_value hv8
                  obtain ⟨q_25, q_26, T⟩ := T
                  obtain ⟨b_12, hb_11, ho_9, r_5, hx_11⟩ := Y.atS 1 rfl q_25 q_26
                  refine ⟨b_12, 0, hb_11, q_25, q_26, ?_⟩
                  refine ⟨Y.cellEx 1 rfl hb_11 (t := 0) (by omega) (by decide), Y.freeS 1 rfl hb_11 _, ?_⟩
                  intro hv9
                  have Y : Sy _ _ hv9 [_, _, _, _, _, _] := Y.st1 1 rfl hb_11 x_8 (by omega) rfl
                  clear_value hv9
                  intro hv10
                  have Y : Sy _ _ hv10 [_, _, _, _, _, _, _] := Y.junk _
                  clear_value hv10
                  obtain ⟨q_27, T⟩ := T
                  refine ⟨_, Y.ownS 0 rfl, (allc (Y.nJ 0 6 rfl rfl rfl) alln), by first | exact appB q_27 (by decide) | omega, by first | exact appM q_27 | (simp [maxLen]; omega), ?_⟩
                  intro sA sC hv11 ow fA gA gB
                  have Y : Sy _ _ hv11 [_, _, _, _, _, _, _] := Y.appS 0 rfl ([r] : List Int) ow fA gA rfl rfl
                  exact ⟨_, _, _, _, _, _, rfl, Y.pick [0, 1, 2, 3, 4, 5] rfl, T⟩
                · exact ⟨_, _, _, _, _, _, rfl, Y.pick [0, 1, 2, 3, 4, 5] rfl, T⟩
              · subst hB_7 hF_10 hF_11
                clear T0 Y
                rintro queueA3 queueL3 queueC3 hv12 ⟨queueA3, queueL3, queueC3, queue_5, r_2_3_2_3, x_5_2_3, e, Y, T⟩
                cases e
                obtain rfl := Y.lenS 0 rfl
                replace T := T1 queue_5 r_2_3_2_3 x_5_2_3 T
                have Y : Sy _ _ _ [_, _, _, _, _, _] := Y
                exact hK _ _ _ _ ⟨_, _, _, Y.pick [0, 1, 2, 3, 4, 5] rfl, T⟩
            · exact hK _ _ _ _ ⟨_, _, _, Y.pick [0, 1, 2, 3, 4, 5] rfl, T⟩
          · exact loopBack hm_3 ⟨_, _, _, _, _, _, _, rfl, Y.pick [0, 1, 2, 3, 4, 5] rfl, T.1, rfl⟩ T.2
      · exact hK2 _ ⟨_, _, Y.pick [1, 2, 3, 4, 5] rfl, T⟩
    · exact hK2 _ ⟨_, _, Y.pick [1, 2, 3, 4, 5] rfl, T⟩
/-- tracery/walk.Ring -/
def S93 (g : Int) (gA : Option Addr) (gL gC : Nat) (h : Heap) (R : Value → Heap → Prop) : Prop :=
  let hv : Heap := h.push (.cells #[.int .i64 g, .slice gA gL gC] 26)
  callX Try.prog 140 #[.agg #[.int .i64 g, .slice gA gL gC]] hv [h.size] fun v hv2 =>
  ∃ r : Bool, v = .bool r ∧
  cnd (!r)
    (R (.tuple #[.slice none 0 0, .int .i64 1]) hv2)
    (callX Try.prog 175 #[.agg #[.int .i64 g, .slice gA gL gC]] hv2 [h.size] fun v2 hv3 =>
    ∃ rP : Option Addr, v2 = .pointer rP ∧
    ∃ (Iv : List Value → Heap → Prop) (m : List Value → Heap → Nat), Iv [.slice none 0 0, .int .i64 0] hv3 ∧ -- loop 0: ['best', '17']
    ∀ (bestA : Option Addr) (bestL bestC : Nat), ∀ x : Int, ∀ hv4, Iv [.slice bestA bestL bestC, .int .i64 x] hv4 →
    cnd (decide (x < ((gL : Nat) : Int)))
      (let K := fun (c : Int) (c2 : Int) (bestA3 : Option Addr) (bestL3 bestC3 : Nat) (hv14 : Heap) =>
        (Iv [.slice bestA3 bestL3 bestC3, .int .i64 (IntKind.i64.wrap (x + (1 : Int)))] hv14 ∧ m [.slice bestA3 bestL3 bestC3, .int .i64 (IntKind.i64.wrap (x + (1 : Int)))] hv14 < m [.slice bestA bestL bestC, .int .i64 x] hv4)
      ∃ b o, gA = some ⟨b, o, none⟩ ∧ 0 ≤ x ∧ x < (gL : Nat) ∧ ∃ x2 : Int, hcell hv4 b (o + (Int.toNat x) * 2) = some (.int .i64 x2) ∧ ∃ x3 : Int, hcell hv4 b ((o + (Int.toNat x) * 2) + 1) = some (.int .i64 x3) ∧ let hv5 : Heap := hv4.push (.cells #[.int .i64 0, .int .i64 0] 35)
      let hv6 : Heap := hset (hset hv5 hv4.size 0 (.int .i64 x2)) hv4.size (0 + 1) (.int .i64 x3)
      cnd (x2 == x3)
        (let hv7 : Heap := hv6.push (.cells #[.int .i64 (IntKind.i64.wrap ((2 : Int) * x))] 3)
        R (.tuple #[.slice (some (⟨hv6.size, 0, none⟩ : Addr)) 1 1, .int .i64 0]) hv7)
        (callX Try.prog 183 #[.pointer rP, .int .i64 x, .int .i64 x3, .int .i64 x2] hv6 [hv4.size] fun v3 hv8 =>
        ∃ (rA : Option Addr) (rL rC : Nat), v3 = .slice rA rL rC ∧
        cnd (!(Option.isNone rA))
          (cnd (Option.isNone bestA)
            (let hv9 : Heap := hv8.push (.cells #[.int .i64 (IntKind.i64.wrap ((2 : Int) * x))] 3)
            ∃ xs : List Value, Reads hv9 1 rA rL xs ∧ (rA = none → rC = 0) ∧ (∀ v ∈ xs, v.oneCell' = true) ∧ ∃ old, Ownd hv9 3 1 (some (⟨hv8.size, 0, none⟩ : Addr)) 1 1 old ∧ (∀ b ∈ ([hv4.size] : List Nat), b ∉ blkOf (some (⟨hv8.size, 0, none⟩ : Addr))) ∧ (1 + rL) * 8 ≤ 140737488355328 ∧ (1 + rL) ≤ maxLen ∧
            ∀ sA sC hv10, Ownd hv10 3 1 sA (1 + rL) sC (old ++ xs) → Fr (blkOf (some (⟨hv8.size, 0, none⟩ : Addr))) hv9 hv10 → ((sA = (some (⟨hv8.size, 0, none⟩ : Addr)) ∧ sC = 1) ∨ ∃ g, sA = some ⟨g, 0, none⟩ ∧ hv9.size ≤ g) → (1 < (1 + rL) → Fr [] hv9 hv10) →
            K x2 x3 sA (1 + rL) sC hv10)
            (∃ Jv : List Value → Heap → Prop, -- join 50 ['best']
            ( cnd (decide ((IntKind.i64.wrap (((rL : Nat) : Int) + (1 : Int))) < ((bestL : Nat) : Int)))
               (let hv11 : Heap := hv8.push (.cells #[.int .i64 (IntKind.i64.wrap ((2 : Int) * x))] 3)
               ∃ xs2 : List Value, Reads hv11 1 rA rL xs2 ∧ (rA = none → rC = 0) ∧ (∀ v ∈ xs2, v.oneCell' = true) ∧ ∃ old2, Ownd hv11 3 1 (some (⟨hv8.size, 0, none⟩ : Addr)) 1 1 old2 ∧ (∀ b ∈ ([hv4.size] : List Nat), b ∉ blkOf (some (⟨hv8.size, 0, none⟩ : Addr))) ∧ (1 + rL) * 8 ≤ 140737488355328 ∧ (1 + rL) ≤ maxLen ∧
               ∀ sA2 sC2 hv12, Ownd hv12 3 1 sA2 (1 + rL) sC2 (old2 ++ xs2) → Fr (blkOf (some (⟨hv8.size, 0, none⟩ : Addr))) hv11 hv12 → ((sA2 = (some (⟨hv8.size, 0, none⟩ : Addr)) ∧ sC2 = 1) ∨ ∃ g, sA2 = some ⟨g, 0, none⟩ ∧ hv11.size ≤ g) → (1 < (1 + rL) → Fr [] hv11 hv12) →
               Jv [.slice sA2 (1 + rL) sC2] hv12)
               (Jv [.slice bestA bestL bestC] hv8)) ∧
            ∀ (bestA2 : Option Addr) (bestL2 bestC2 : Nat), ∀ hv13, Jv [.slice bestA2 bestL2 bestC2] hv13 →
            Iv [.slice bestA2 bestL2 bestC2, .int .i64 (IntKind.i64.wrap (x + (1 : Int)))] hv13 ∧ m [.slice bestA2 bestL2 bestC2, .int .i64 (IntKind.i64.wrap (x + (1 : Int)))] hv13 < m [.slice bestA bestL bestC, .int .i64 x] hv4))
          (K x2 x3 bestA bestL bestC hv8)))
      (cnd (Option.isNone bestA)
        (R (.tuple #[.slice none 0 0, .int .i64 14]) hv4)
        (R (.tuple #[.slice bestA bestL bestC, .int .i64 0]) hv4)))
theorem calls93 {h : Heap} {R : Value → Heap → Prop} (g : Int) (gA : Option Addr) (gL gC : Nat) (H : S93 g gA gL gC h R) : CallsH Try.prog 93 #[.agg #[.int .i64 g, .slice gA gL gC]] h R := by
  have e : S93 g gA gL gC h R = FX (envX [1, 7] 60) { loops := [(0, ⟨[4, 15, 16], [5, 17], [], []⟩)], joins := [(50, ⟨[4, 15, 16, 17], [5], [], []⟩)], blocks := [], draws := [] } Try.f93 (Try.f93.body.getD .skip) [.agg #[.int .i64 g, .slice gA gL gC]] h R := by kernel_rfl
  exact calls_of_FX (envX_ok _ _) Try.func93 (by kernel_rfl) (by kernel_rfl) (by kernel_rfl) (e ▸ H)
/-- tracery/walk.Ring -/
def Ok93 (g : Int) (edgesV : List (Int × Int)) (R : List Int → Int → Prop) : Prop :=
  ∀ (h : Heap) (gA : Option Addr) (gL gC : Nat), Hp h [Ck.vw eP gA gL gC edgesV] → CallsH Try.prog 93 #[.agg #[.int .i64 g, .slice gA gL gC]] h fun v h' => ∃ (raVA : Option Addr) (raVL raVC : Nat) (raV : List Int) (rbV : Int), Sy h [] h' [Ck.sl eI 3 raVA raVL raVC raV] ∧ v = .tuple #[.slice raVA raVL raVC, .int .i64 rbV] ∧ R raV rbV
theorem Ok93.mono {g edgesV} {R R' : List Int → Int → Prop} (H : Ok93 g edgesV R) (kz : ∀ raV rbV, R raV rbV → R' raV rbV) : Ok93 g edgesV R' :=
  fun h gA gL gC hp => (H h gA gL gC hp).mono fun _ _ ⟨raVA, raVL, raVC, raV, rbV, P, e, q⟩ => ⟨raVA, raVL, raVC, raV, rbV, P, e, kz _ _ q⟩
def T93 (g : Int) (edgesV : List (Int × Int)) (R : List Int → Int → Prop) : Prop :=
  Ok140 g edgesV (fun r =>
  cnd (!r)
    (R ([] : List Int) 1)
    (Ok175 g edgesV (fun nV outV =>
    ∃ (Iv : List Int → Bool → Int → Prop) (m : List Int → Bool → Int → Nat), Iv ([] : List Int) true 0 ∧
    ∀ best : List Int, ∀ bestN : Bool, ∀ x : Int, Iv best bestN x →
    cnd (decide (x < ((edgesV.length : Nat) : Int)))
      (∃ Jv_2 : Int → Int → List Int → Bool → Prop,
      ( 0 ≤ x ∧ x < ((edgesV.length : Nat) : Int) ∧ ∀ g_2 : (Int × Int), edgesV[(Int.toNat x)]? = some g_2 → cnd (g_2.1 == g_2.2)
         (R ([(IntKind.i64.wrap ((2 : Int) * x))] : List Int) 0)
         (Ok183 nV edgesV outV x g_2.2 g_2.1 (fun r_2 rN =>
         cnd (!(rN))
           (cnd (bestN)
             ((1 + r_2.length) < 1000000000000 ∧ ∀ nl : Bool, (nl = true → (1 + r_2.length) = 0) → Jv_2 g_2.1 g_2.2 (([(IntKind.i64.wrap ((2 : Int) * x))] : List Int) ++ r_2) nl)
             (∃ Jv : List Int → Bool → Prop,
             ( cnd (decide ((IntKind.i64.wrap (((r_2.length : Nat) : Int) + (1 : Int))) < ((best.length : Nat) : Int)))
                ((1 + r_2.length) < 1000000000000 ∧ ∀ nl_2 : Bool, (nl_2 = true → (1 + r_2.length) = 0) → Jv (([(IntKind.i64.wrap ((2 : Int) * x))] : List Int) ++ r_2) nl_2)
                (Jv best bestN)) ∧
             ∀ best_3 : List Int, ∀ best_3N : Bool, Jv best_3 best_3N →
             Iv best_3 best_3N (IntKind.i64.wrap (x + (1 : Int))) ∧ m best_3 best_3N (IntKind.i64.wrap (x + (1 : Int))) < m best bestN x))
           (Jv_2 g_2.1 g_2.2 best bestN)))) ∧
      ∀ c : Int, ∀ c2 : Int, ∀ best_2 : List Int, ∀ best_2N : Bool, Jv_2 c c2 best_2 best_2N →
      Iv best_2 best_2N (IntKind.i64.wrap (x + (1 : Int))) ∧ m best_2 best_2N (IntKind.i64.wrap (x + (1 : Int))) < m best bestN x)
      (cnd (bestN)
        (R ([] : List Int) 14)
        (R best 0)))))
theorem ok93 {g edgesV} {R : List Int → Int → Prop} (T : T93 g edgesV R) : Ok93 g edgesV R := by
  intro h gA gL gC H
  have Y : Sy h [] h _ := Sy.startM H rfl
  obtain rfl := Y.lenV 0 rfl
  apply calls93
  unfold S93
  unfold T93 at T
  intro hv
  have Y : Sy _ _ hv [_, _] := Y.junk _
  clear_value hv
  refine callX_sy (T _ _ _ _ (Y.pick [0] rfl).hp) (fun _ _ ⟨_, p, _⟩ => p.fr) (allc (fun h => by cases h) alln) ?_
  rintro v hv2 ⟨r, PP, rfl, T⟩
  have Y : Sy _ _ hv2 [_, _] := Y.gr PP.fr
  clear PP
  refine ⟨r, rfl, ?_⟩
  refine cnd_imp T (fun T => ?_) (fun T => ?_)
  · have Y : Sy _ _ _ [_, _, _] := Y.nilS eI 3
    exact ⟨_, _, _, _, _, Y.pick [2] rfl, rfl, T⟩
  · refine callX_sy (T _ _ _ _ (Y.pick [0] rfl).hp) (fun _ _ ⟨_, _, _, _, _, _, _, p, _⟩ => p.fr) (allc (fun h => by cases h) alln) ?_
    rintro v2 hv3 ⟨rB_2, nV, outVA, outVL, outVC, outH, outV, PP, rfl, T⟩
    have Y : Sy _ _ hv3 [_, _, _, _] := Y.callV PP ⟨rfl, ⟨rfl, trivial⟩⟩
    clear PP
    obtain rfl := Y.lenR 3 rfl
    refine ⟨_, rfl, ?_⟩
    have Y : Sy _ _ _ [_, _, _, _, _] := Y.nilS eI 3
    obtain ⟨Iv, m, T0, T1⟩ := T
    obtain ⟨B, hB, YB⟩ := Y.cut [4] [0, 1, 2, 3] rfl
    obtain ⟨JJ, hJJ⟩ : ∃ JJ : Nat → List Value → Heap → Prop, JJ = (fun k lz h' => ∃ (bestA : Option Addr) (bestL bestC : Nat) (best : List Int) (bestN : Bool) (x : Int), lz = [.slice bestA bestL bestC, .int .i64 x] ∧ Sy h [] h' ([Ck.sl eI 3 bestA bestL bestC best] ++ B) ∧ Option.isNone bestA = bestN ∧ Iv best bestN x ∧ m best bestN x = k) := ⟨_, rfl⟩
    refine ⟨fun lz h' => ∃ k, JJ k lz h', Lm JJ, ?_, ?_⟩
    · subst hJJ hB
      exact ⟨_, _, _, _, _, _, _, rfl, YB, rfl, T0, rfl⟩
    · clear YB T0 Y
      intro bestA bestL bestC x hv4 hI
      obtain ⟨k, hI, hm⟩ := loopIn hI
      subst hJJ hB
      obtain ⟨bestA, bestL, bestC, best, bestN, x, e, Y, hbestN, T, rfl⟩ := hI
      cases e
      obtain rfl := Y.lenS 0 rfl
      replace T := T1 best bestN x T
      have Y : Sy _ _ _ [_, _, _, _, _] := Y
      refine cnd_imp T (fun T => ?_) (fun T => ?_)
      · obtain ⟨Jv_2, T0, T1⟩ := T
        obtain ⟨B_2, hB_2, _⟩ := Y.cut [] [1, 2, 3, 4] rfl
        intro K
        have hK : ∀ (c : Int) (c2 : Int) (bestA3 : Option Addr) (bestL3 bestC3 : Nat) (hv14 : Heap), (∃ (best_2 : List Int) (best_2N : Bool), Sy h [] hv14 ([Ck.sl eI 3 bestA3 bestL3 bestC3 best_2] ++ B_2) ∧ Option.isNone bestA3 = best_2N ∧ Jv_2 c c2 best_2 best_2N) → K c c2 bestA3 bestL3 bestC3 hv14 := by
          subst hB_2
          clear T0 Y
          rintro c c2 bestA3 bestL3 bestC3 hv14 ⟨best_2, best_2N, Y, hbest_2N, T⟩
          obtain rfl := Y.lenS 0 rfl
          replace T := T1 c c2 best_2 best_2N T
          have Y : Sy _ _ _ [_, _, _, _, _] := Y
          unfold K
          exact loopBack hm ⟨_, _, _, _, _, _, rfl, Y.pick [0, 1, 2, 3, 4] rfl, hbest_2N, T.1, rfl⟩ T.2
        subst hB_2
        replace T := T0
        clear T0 T1
        obtain ⟨q, q_2, T⟩ := T
        obtain ⟨b_2, o_2, hb, hr, g_2, hx⟩ := Y.atV 1 rfl q q_2
        refine ⟨b_2, o_2, hb, q, q_2, ?_⟩
        replace T := T g_2 hx
        refine ⟨_, Y.cellV 1 rfl hb (t := 0) hx rfl, ?_⟩
        refine ⟨_, Y.cellV 1 rfl hb (t := 1) hx rfl, ?_⟩
        intro hv5
        have Y : Sy _ _ hv5 [_, _, _, _, _, _] := Y.junk _
        clear_value hv5
        intro hv6
        have Y : Sy _ _ hv6 [_, _, _, _, _, _] := ((Y.stJ 5 rfl _ _).stJ 5 rfl _ _)
        clear_value hv6
        refine cnd_imp T (fun T => ?_) (fun T => ?_)
        · intro hv7
          have Y : Sy _ _ hv7 [_, _, _, _, _, _, _] := Y.litS (E := eI) (ty := 3) ([(IntKind.i64.wrap ((2 : Int) * x))] : List Int) rfl (by simp [maxLen])
          clear_value hv7
          exact ⟨_, _, _, _, _, Y.pick [6] rfl, rfl, T⟩
        · refine callX_sy (T _ _ _ _ _ _ _ _ _ _ (((Y.turn 3 rfl To.obvob).turn 4 rfl To.rowsv).pick [3, 1, 4] rfl).hp) (fun _ _ ⟨_, _, _, _, _, p, _⟩ => p.fr) (allc (fun h => by cases h) alln) ?_
          rintro v3 hv8 ⟨rA, rL, rC, r_2, rN, PP, rfl, hrN, T⟩
          have Y : Sy _ _ hv8 [_, _, _, _, _, _, _] := Y.callV PP ⟨rfl, trivial⟩
          clear PP
          obtain rfl := Y.lenS 6 rfl
          refine ⟨_, _, _, rfl, ?_⟩
          try rw [hrN]
          refine cnd_imp T (fun T => ?_) (fun T => ?_)
          · try rw [hbestN]
            refine cnd_imp T (fun T => ?_) (fun T => ?_)
            · intro hv9
              have Y : Sy _ _ hv9 [_, _, _, _, _, _, _, _] := Y.litS (E := eI) (ty := 3) ([(IntKind.i64.wrap ((2 : Int) * x))] : List Int) rfl (by simp [maxLen])
              clear_value hv9
              refine ⟨_, Y.readsS 6 rfl, (Y.capS 6 rfl).2.2, En.l_one _, ?_⟩
              obtain ⟨q_3, T⟩ := T
              refine ⟨_, Y.ownS 7 rfl, (allc (Y.nJ 7 5 rfl rfl rfl) alln), by first | exact appB q_3 (by decide) | omega, by first | exact appM q_3 | (simp [maxLen]; omega), ?_⟩
              intro sA sC hv10 ow fA gA gB
              have Y : Sy _ _ hv10 [_, _, _, _, _, _, _, _] := Y.appS 7 rfl r_2 ow fA gA rfl (by first | rfl | simp)
              obtain ⟨nl, hnl⟩ : ∃ b, Option.isNone sA = b := ⟨_, rfl⟩
              replace T := T nl (fun e => (Y.nilSl 7 rfl) (hnl.trans e))
              exact hK _ _ _ _ _ _ ⟨_, _, Y.pick [7, 1, 2, 3, 4] rfl, hnl, T⟩
            · obtain ⟨Jv, T0, T1⟩ := T
              obtain ⟨B_3, hB_3, _⟩ := Y.cut [] [1, 2, 3, 4, 5, 6] rfl
              refine ⟨fun lz h' => ∃ (bestA2 : Option Addr) (bestL2 bestC2 : Nat) (best_3 : List Int) (best_3N : Bool), lz = [.slice bestA2 bestL2 bestC2] ∧ Sy h [] h' ([Ck.sl eI 3 bestA2 bestL2 bestC2 best_3] ++ B_3) ∧ Option.isNone bestA2 = best_3N ∧ Jv best_3 best_3N, ?_, ?_⟩
              · subst hB_3
                replace T := T0
                clear T0 T1
                refine cnd_imp T (fun T => ?_) (fun T => ?_)
                · intro hv11
                  have Y : Sy _ _ hv11 [_, _, _, _, _, _, _, _] := Y.litS (E := eI) (ty := 3) ([(IntKind.i64.wrap ((2 : Int) * x))] : List Int) rfl (by simp [maxLen])
                  clear_value hv11
                  refine ⟨_, Y.readsS 6 rfl, (Y.capS 6 rfl).2.2, En.l_one _, ?_⟩
                  obtain ⟨q_4, T⟩ := T
                  refine ⟨_, Y.ownS 7 rfl, (allc (Y.nJ 7 5 rfl rfl rfl) alln), by first | exact appB q_4 (by decide) | omega, by first | exact appM q_4 | (simp [maxLen]; omega), ?_⟩
                  intro sA2 sC2 hv12 ow fA gA gB
                  have Y : Sy _ _ hv12 [_, _, _, _, _, _, _, _] := Y.appS 7 rfl r_2 ow fA gA rfl (by first | rfl | simp)
                  obtain ⟨nl_2, hnl_2⟩ : ∃ b, Option.isNone sA2 = b := ⟨_, rfl⟩
                  replace T := T nl_2 (fun e => (Y.nilSl 7 rfl) (hnl_2.trans e))
                  exact ⟨_, _, _, _, _, rfl, Y.pick [7, 1, 2, 3, 4, 5, 6] rfl, hnl_2, T⟩
                · exact ⟨_, _, _, _, _, rfl, Y.pick [0, 1, 2, 3, 4, 5, 6] rfl, hbestN, T⟩
              · subst hB_3
                clear T0 Y
                rintro bestA2 bestL2 bestC2 hv13 ⟨bestA2, bestL2, bestC2, best_3, best_3N, e, Y, hbest_3N, T⟩
                cases e
                obtain rfl := Y.lenS 0 rfl
                replace T := T1 best_3 best_3N T
                have Y : Sy _ _ _ [_, _, _, _, _, _, _] := Y
                exact loopBack hm ⟨_, _, _, _, _, _, rfl, Y.pick [0, 1, 2, 3, 4] rfl, hbest_3N, T.1, rfl⟩ T.2
          · exact hK _ _ _ _ _ _ ⟨_, _, Y.pick [0, 1, 2, 3, 4] rfl, hbestN, T⟩
      · try rw [hbestN]
        refine cnd_imp T (fun T => ?_) (fun T => ?_)
        · have Y : Sy _ _ _ [_, _, _, _, _, _] := Y.nilS eI 3
          exact ⟨_, _, _, _, _, Y.pick [5] rfl, rfl, T⟩
        · exact ⟨_, _, _, _, _, Y.pick [0] rfl, rfl, T⟩
/-- tracery/tracerylaw6.ring -/
def S172  (h : Heap) (R : Value → Heap → Prop) : Prop :=
  let hv : Heap := h.push (.cells #[.int .i64 0, .slice none 0 0] 26)
  let hv2 : Heap := hv.push (.cells #[.int .i64 0, .int .i64 1, .int .i64 1, .int .i64 2, .int .i64 2, .int .i64 0, .int .i64 1, .int .i64 0] 35)
  let hv3 : Heap := hset (hset hv2 h.size 0 (.int .i64 4)) h.size (0 + 1) (.slice (some (⟨hv.size, 0, none⟩ : Addr)) 4 4)
  R (.agg #[.int .i64 4, .slice (some (⟨hv.size, 0, none⟩ : Addr)) 4 4]) hv3
theorem calls172 {h : Heap} {R : Value → Heap → Prop}  (H : S172  h R) : CallsH Try.prog 172 #[] h R := by
  have e : S172  h R = FX (envX [0] 7) { loops := [], joins := [], blocks := [], draws := [] } Try.f172 (Try.f172.body.getD .skip) [] h R := by kernel_rfl
  exact calls_of_FX (envX_ok _ _) Try.func172 (by kernel_rfl) (by kernel_rfl) (by kernel_rfl) (e ▸ H)
/-- tracery/tracerylaw6.ring -/
def Ok172  (R : Int → List (Int × Int) → Prop) : Prop :=
  ∀ (h : Heap), Hp h [] → CallsH Try.prog 172 #[] h fun v h' => ∃ (nV : Int) (edgesVA : Option Addr) (edgesVL edgesVC : Nat) (edgesV : List (Int × Int)), Sy h [] h' [Ck.sl eP 35 edgesVA edgesVL edgesVC edgesV] ∧ v = .agg #[.int .i64 nV, .slice edgesVA edgesVL edgesVC] ∧ R nV edgesV
theorem Ok172.mono {R R' : Int → List (Int × Int) → Prop} (H : Ok172  R) (kz : ∀ nV edgesV, R nV edgesV → R' nV edgesV) : Ok172  R' :=
  fun h  hp => (H h  hp).mono fun _ _ ⟨nV, edgesVA, edgesVL, edgesVC, edgesV, P, e, q⟩ => ⟨nV, edgesVA, edgesVL, edgesVC, edgesV, P, e, kz _ _ q⟩
def T172  (R : Int → List (Int × Int) → Prop) : Prop :=
  R 4 ([(0, 1), (1, 2), (2, 0), (1, 0)] : List (Int × Int))
theorem ok172 {R : Int → List (Int × Int) → Prop} (T : T172  R) : Ok172  R := by
  intro h  H
  have Y : Sy h [] h _ := Sy.startM H rfl
  apply calls172
  unfold S172
  unfold T172 at T
  intro hv
  have Y : Sy _ _ hv [_] := Y.junk _
  clear_value hv
  intro hv2
  have Y : Sy _ _ hv2 [_, _] := Y.litS (E := eP) (ty := 35) ([(0, 1), (1, 2), (2, 0), (1, 0)] : List (Int × Int)) rfl (by simp [maxLen])
  clear_value hv2
  intro hv3
  have Y : Sy _ _ hv3 [_, _] := ((Y.stJ 0 rfl _ _).stJ 0 rfl _ _)
  clear_value hv3
  exact ⟨_, _, _, _, _, Y.pick [1] rfl, rfl, T⟩
/-- tracery/walk.Each -/
def S173 (g : Int) (gA : Option Addr) (gL gC : Nat) (s : Int) (h : Heap) (R : Value → Heap → Prop) : Prop :=
  let hv : Heap := h.push (.cells #[.int .i64 g, .slice gA gL gC] 26)
  callX Try.prog 81 #[.agg #[.int .i64 g, .slice gA gL gC], .int .i64 s] hv [h.size] fun v hv2 =>
  ∃ (raA : Option Addr) (raL raC : Nat), ∃ (raA2 : Option Addr) (raL2 raC2 : Nat), ∃ (raA3 : Option Addr) (raL3 raC3 : Nat), ∃ (raA4 : Option Addr) (raL4 raC4 : Nat), ∃ rb : Int, v = .tuple #[.agg #[.slice raA raL raC, .slice raA2 raL2 raC2, .slice raA3 raL3 raC3, .slice raA4 raL4 raC4], .int .i64 rb] ∧
  let hv3 : Heap := hv2.push (.cells #[.slice none 0 0, .slice none 0 0, .slice none 0 0, .slice none 0 0] 113)
  hv2.size ≠ h.size ∧ (∃ u, hcell hv3 hv2.size 0 = some u) ∧ hfree hv3 hv2.size 0 = true ∧ (∃ u, hcell hv3 hv2.size (0 + 1) = some u) ∧ hfree hv3 hv2.size (0 + 1) = true ∧ (∃ u, hcell hv3 hv2.size ((0 + 1) + 1) = some u) ∧ hfree hv3 hv2.size ((0 + 1) + 1) = true ∧ (∃ u, hcell hv3 hv2.size (((0 + 1) + 1) + 1) = some u) ∧ hfree hv3 hv2.size (((0 + 1) + 1) + 1) = true ∧ let hv4 : Heap := hset (hset (hset (hset hv3 hv2.size 0 (.slice raA raL raC)) hv2.size (0 + 1) (.slice raA2 raL2 raC2)) hv2.size ((0 + 1) + 1) (.slice raA3 raL3 raC3)) hv2.size (((0 + 1) + 1) + 1) (.slice raA4 raL4 raC4)
  R (.func (.func 217) #[] #[.pointer (some (⟨hv2.size, 0, none⟩ : Addr))]) hv4
theorem calls173 {h : Heap} {R : Value → Heap → Prop} (g : Int) (gA : Option Addr) (gL gC : Nat) (s : Int) (H : S173 g gA gL gC s h R) : CallsH Try.prog 173 #[.agg #[.int .i64 g, .slice gA gL gC], .int .i64 s] h R := by
  have e : S173 g gA gL gC s h R = FX (envX [2] 14) { loops := [], joins := [], blocks := [], draws := [] } Try.f173 (Try.f173.body.getD .skip) [.agg #[.int .i64 g, .slice gA gL gC], .int .i64 s] h R := by kernel_rfl
  exact calls_of_FX (envX_ok _ _) Try.func173 (by kernel_rfl) (by kernel_rfl) (by kernel_rfl) (e ▸ H)
/-- tracery/walk.Each -/
def Ok173 (g : Int) (edgesV : List (Int × Int)) (s : Int) (R : Prop) : Prop :=
  ∀ (h : Heap) (gA : Option Addr) (gL gC : Nat), Hp h [Ck.vw eP gA gL gC edgesV] → CallsH Try.prog 173 #[.agg #[.int .i64 g, .slice gA gL gC], .int .i64 s] h fun v h' => ∃ (rG : Fn) (rX rY : Array Value), Sy h [] h' [] ∧ v = .func rG rX rY ∧ R
/-- tracery/tracerylaw6.begun -/
def S80  (h : Heap) (R : Value → Heap → Prop) : Prop :=
  callX Try.prog 172 #[] h [] fun v hv =>
  ∃ r : Int, ∃ (rA : Option Addr) (rL rC : Nat), v = .agg #[.int .i64 r, .slice rA rL rC] ∧
  callX Try.prog 81 #[.agg #[.int .i64 r, .slice rA rL rC], .int .i64 0] hv [] fun v2 hv2 =>
  ∃ (raA : Option Addr) (raL raC : Nat), ∃ (raA2 : Option Addr) (raL2 raC2 : Nat), ∃ (raA3 : Option Addr) (raL3 raC3 : Nat), ∃ (raA4 : Option Addr) (raL4 raC4 : Nat), ∃ rb : Int, v2 = .tuple #[.agg #[.slice raA raL raC, .slice raA2 raL2 raC2, .slice raA3 raL3 raC3, .slice raA4 raL4 raC4], .int .i64 rb] ∧
  let hv3 : Heap := hv2.push (.cells #[.slice none 0 0, .slice none 0 0, .slice none 0 0, .slice none 0 0] 113)
  let hv4 : Heap := hset (hset (hset (hset hv3 hv2.size 0 (.slice raA raL raC)) hv2.size (0 + 1) (.slice raA2 raL2 raC2)) hv2.size ((0 + 1) + 1) (.slice raA3 raL3 raC3)) hv2.size (((0 + 1) + 1) + 1) (.slice raA4 raL4 raC4)
  callX Try.prog 172 #[] hv4 [hv2.size] fun v3 hv5 =>
  ∃ r2 : Int, ∃ (rA2 : Option Addr) (rL2 rC2 : Nat), v3 = .agg #[.int .i64 r2, .slice rA2 rL2 rC2] ∧
  callX Try.prog 82 #[.agg #[.int .i64 r2, .slice rA2 rL2 rC2], .int .i64 0] hv5 [hv2.size] fun v4 hv6 =>
  ∃ (raA5 : Option Addr) (raL5 raC5 : Nat), ∃ (raA6 : Option Addr) (raL6 raC6 : Nat), ∃ (raA7 : Option Addr) (raL7 raC7 : Nat), ∃ (raA8 : Option Addr) (raL8 raC8 : Nat), ∃ rb2 : Int, v4 = .tuple #[.agg #[.slice raA5 raL5 raC5, .slice raA6 raL6 raC6, .slice raA7 raL7 raC7, .slice raA8 raL8 raC8], .int .i64 rb2] ∧
  let hv7 : Heap := hv6.push (.cells #[.slice none 0 0, .slice none 0 0, .slice none 0 0, .slice none 0 0] 113)
  let hv8 : Heap := hset (hset (hset (hset hv7 hv6.size 0 (.slice raA5 raL5 raC5)) hv6.size (0 + 1) (.slice raA6 raL6 raC6)) hv6.size ((0 + 1) + 1) (.slice raA7 raL7 raC7)) hv6.size (((0 + 1) + 1) + 1) (.slice raA8 raL8 raC8)
  callX Try.prog 172 #[] hv8 [hv6.size, hv2.size] fun v5 hv9 =>
  ∃ r3 : Int, ∃ (rA3 : Option Addr) (rL3 rC3 : Nat), v5 = .agg #[.int .i64 r3, .slice rA3 rL3 rC3] ∧
  callX Try.prog 83 #[.agg #[.int .i64 r3, .slice rA3 rL3 rC3]] hv9 [hv6.size, hv2.size] fun v6 hv10 =>
  ∃ (raA9 : Option Addr) (raL9 raC9 : Nat), ∃ rb3 : Int, ∃ rc : Int, v6 = .tuple #[.slice raA9 raL9 raC9, .int .i64 rb3, .int .i64 rc] ∧
  callX Try.prog 172 #[] hv10 [hv6.size, hv2.size] fun v7 hv11 =>
  ∃ r4 : Int, ∃ (rA4 : Option Addr) (rL4 rC4 : Nat), v7 = .agg #[.int .i64 r4, .slice rA4 rL4 rC4] ∧
  callX Try.prog 93 #[.agg #[.int .i64 r4, .slice rA4 rL4 rC4]] hv11 [hv6.size, hv2.size] fun v8 hv12 =>
  ∃ (raA10 : Option Addr) (raL10 raC10 : Nat), ∃ rb4 : Int, v8 = .tuple #[.slice raA10 raL10 raC10, .int .i64 rb4] ∧
  callX Try.prog 172 #[] hv12 [hv6.size, hv2.size] fun v9 hv13 =>
  ∃ r5 : Int, ∃ (rA5 : Option Addr) (rL5 rC5 : Nat), v9 = .agg #[.int .i64 r5, .slice rA5 rL5 rC5] ∧
  callX Try.prog 90 #[.agg #[.int .i64 r5, .slice rA5 rL5 rC5]] hv13 [hv6.size, hv2.size] fun v10 hv14 =>
  ∃ (raA11 : Option Addr) (raL11 raC11 : Nat), ∃ (rbA : Option Addr) (rbL rbC : Nat), ∃ rc2 : Int, v10 = .tuple #[.slice raA11 raL11 raC11, .slice rbA rbL rbC, .int .i64 rc2] ∧
  callX Try.prog 172 #[] hv14 [hv6.size, hv2.size] fun v11 hv15 =>
  ∃ r6 : Int, ∃ (rA6 : Option Addr) (rL6 rC6 : Nat), v11 = .agg #[.int .i64 r6, .slice rA6 rL6 rC6] ∧
  callX Try.prog 173 #[.agg #[.int .i64 r6, .slice rA6 rL6 rC6], .int .i64 0] hv15 [hv6.size, hv2.size] fun v12 hv16 =>
  ∃ (rF : Fn) (rX rY : Array Value), v12 = .func rF rX rY ∧
  cnd false
    (R (.bool false) hv16)
    (cnd (((raL : Nat) : Int) == (3 : Int))
      (cnd (rb == (0 : Int))
        (cnd (((raL8 : Nat) : Int) == (4 : Int))
          (∃ b o, raA8 = some ⟨b, o, none⟩ ∧ 0 ≤ (2 : Int) ∧ (2 : Int) < (raL8 : Nat) ∧ ∃ x : Int, hcell hv16 b (o + (Int.toNat (2 : Int)) * 1) = some (.int .i64 x) ∧ cnd (x == (0 : Int))
            (cnd (rb2 == (0 : Int))
              (cnd (((raL9 : Nat) : Int) == (4 : Int))
                (∃ b2 o2, raA9 = some ⟨b2, o2, none⟩ ∧ 0 ≤ (3 : Int) ∧ (3 : Int) < (raL9 : Nat) ∧ ∃ x2 : Int, hcell hv16 b2 (o2 + (Int.toNat (3 : Int)) * 1) = some (.int .i64 x2) ∧ cnd (x2 == (1 : Int))
                  (cnd (rb3 == (2 : Int))
                    (cnd (rc == (0 : Int))
                      (cnd (((raL10 : Nat) : Int) == (2 : Int))
                        (cnd (rb4 == (0 : Int))
                          (cnd (((raL11 : Nat) : Int) == (0 : Int))
                            (cnd (((rbL : Nat) : Int) == (3 : Int))
                              (R (.bool (rc2 == (0 : Int))) hv16)
                              (R (.bool false) hv16))
                            (R (.bool false) hv16))
                          (R (.bool false) hv16))
                        (R (.bool false) hv16))
                      (R (.bool false) hv16))
                    (R (.bool false) hv16))
                  (R (.bool false) hv16))
                (R (.bool false) hv16))
              (R (.bool false) hv16))
            (R (.bool false) hv16))
          (R (.bool false) hv16))
        (R (.bool false) hv16))
      (R (.bool false) hv16))
theorem calls80 {h : Heap} {R : Value → Heap → Prop}  (H : S80  h R) : CallsH Try.prog 80 #[] h R := by
  have e : S80  h R = FX (envX [1, 3] 110) { loops := [], joins := [], blocks := [], draws := [] } Try.f80 (Try.f80.body.getD .skip) [] h R := by kernel_rfl
  exact calls_of_FX (envX_ok _ _) Try.func80 (by kernel_rfl) (by kernel_rfl) (by kernel_rfl) (e ▸ H)
/-- tracery/tracerylaw6.begun -/
def Ok80  (R : Bool → Prop) : Prop :=
  ∀ (h : Heap), Hp h [] → CallsH Try.prog 80 #[] h fun v h' => ∃ (rV : Bool), Sy h [] h' [] ∧ v = .bool rV ∧ R rV
theorem Ok80.mono {R R' : Bool → Prop} (H : Ok80  R) (kz : ∀ rV, R rV → R' rV) : Ok80  R' :=
  fun h  hp => (H h  hp).mono fun _ _ ⟨rV, P, e, q⟩ => ⟨rV, P, e, kz _ q⟩
def T80  (R : Bool → Prop) : Prop :=
  Ok172 (fun r r_2 =>
  Ok81 r r_2 0 (fun ra ra_2 ra_3 ra_4 rb =>
  Ok172 (fun r2 r_3 =>
  Ok82 r2 r_3 0 (fun ra_5 ra_6 ra_7 ra_8 rb2 =>
  Ok172 (fun r3 r_4 =>
  Ok83 r3 r_4 (fun ra_9 rb3 rc =>
  Ok172 (fun r4 r_5 =>
  Ok93 r4 r_5 (fun ra_10 rb4 =>
  Ok172 (fun r5 r_6 =>
  Ok90 r5 r_6 (fun ra_11 rb_2 rc2 =>
  Ok172 (fun r6 r_7 =>
  Ok173 r6 r_7 0 (cnd false
    (R false)
    (cnd (((ra.length : Nat) : Int) == (3 : Int))
      (cnd (rb == (0 : Int))
        (cnd (((ra_8.length : Nat) : Int) == (4 : Int))
          (0 ≤ (2 : Int) ∧ (2 : Int) < ((ra_8.length : Nat) : Int) ∧ ∀ ra_12 : Int, ra_8[(Int.toNat (2 : Int))]? = some ra_12 → cnd (ra_12 == (0 : Int))
            (cnd (rb2 == (0 : Int))
              (cnd (((ra_9.length : Nat) : Int) == (4 : Int))
                (0 ≤ (3 : Int) ∧ (3 : Int) < ((ra_9.length : Nat) : Int) ∧ ∀ ra_13 : Int, ra_9[(Int.toNat (3 : Int))]? = some ra_13 → cnd (ra_13 == (1 : Int))
                  (cnd (rb3 == (2 : Int))
                    (cnd (rc == (0 : Int))
                      (cnd (((ra_10.length : Nat) : Int) == (2 : Int))
                        (cnd (rb4 == (0 : Int))
                          (cnd (((ra_11.length : Nat) : Int) == (0 : Int))
                            (cnd (((rb_2.length : Nat) : Int) == (3 : Int))
                              (R (rc2 == (0 : Int)))
                              (R false))
                            (R false))
                          (R false))
                        (R false))
                      (R false))
                    (R false))
                  (R false))
                (R false))
              (R false))
            (R false))
          (R false))
        (R false))
      (R false))))))))))))))
theorem ok80 {R : Bool → Prop} (T : T80  R) : Ok80  R := by
  intro h  H
  have Y : Sy h [] h _ := Sy.startM H rfl
  apply calls80
  unfold S80
  unfold T80 at T
  refine callX_sy (T _ (Hp.nil _)) (fun _ _ ⟨_, _, _, _, _, p, _⟩ => p.fr) alln ?_
  rintro v hv ⟨r, rA, rL, rC, r_2, PP, rfl, T⟩
  have Y : Sy _ _ hv [_] := Y.callV PP ⟨rfl, trivial⟩
  clear PP
  obtain rfl := Y.lenS 0 rfl
  refine ⟨r, _, _, _, rfl, ?_⟩
  refine callX_sy (T _ _ _ _ ((Y.turn 0 rfl To.slvw).pick [0] rfl).hp) (fun _ _ ⟨_, _, _, _, _, _, _, _, _, _, _, _, _, _, _, _, _, p, _⟩ => p.fr) alln ?_
  rintro v2 hv2 ⟨raA, raL, raC, ra, raA2, raL2, raC2, ra_2, raA3, raL3, raC3, ra_3, raA4, raL4, raC4, ra_4, rb, PP, rfl, T⟩
  have Y : Sy _ _ hv2 [_, _, _, _, _] := Y.callV PP ⟨rfl, ⟨rfl, ⟨rfl, ⟨rfl, trivial⟩⟩⟩⟩
  clear PP
  obtain rfl := Y.lenS 1 rfl
  obtain rfl := Y.lenS 2 rfl
  obtain rfl := Y.lenS 3 rfl
  obtain rfl := Y.lenS 4 rfl
  refine ⟨_, _, _, _, _, _, _, _, _, _, _, _, rb, rfl, ?_⟩
  intro hv3
  have Y : Sy _ _ hv3 [_, _, _, _, _, _] := Y.junk _
  clear_value hv3
  intro hv4
  have Y : Sy _ _ hv4 [_, _, _, _, _, _] := ((((Y.stJ 5 rfl _ _).stJ 5 rfl _ _).stJ 5 rfl _ _).stJ 5 rfl _ _)
  clear_value hv4
  refine callX_sy (T _ (Hp.nil _)) (fun _ _ ⟨_, _, _, _, _, p, _⟩ => p.fr) (allc (fun h => by cases h) alln) ?_
  rintro v3 hv5 ⟨r2, rA2, rL2, rC2, r_3, PP, rfl, T⟩
  have Y : Sy _ _ hv5 [_, _, _, _, _, _, _] := Y.callV PP ⟨rfl, trivial⟩
  clear PP
  obtain rfl := Y.lenS 6 rfl
  refine ⟨r2, _, _, _, rfl, ?_⟩
  refine callX_sy (T _ _ _ _ ((Y.turn 6 rfl To.slvw).pick [6] rfl).hp) (fun _ _ ⟨_, _, _, _, _, _, _, _, _, _, _, _, _, _, _, _, _, p, _⟩ => p.fr) (allc (fun h => by cases h) alln) ?_
  rintro v4 hv6 ⟨raA5, raL5, raC5, ra_5, raA6, raL6, raC6, ra_6, raA7, raL7, raC7, ra_7, raA8, raL8, raC8, ra_8, rb2, PP, rfl, T⟩
  have Y : Sy _ _ hv6 [_, _, _, _, _, _, _, _, _, _, _] := Y.callV PP ⟨rfl, ⟨rfl, ⟨rfl, ⟨rfl, trivial⟩⟩⟩⟩
  clear PP
  obtain rfl := Y.lenS 7 rfl
  obtain rfl := Y.lenS 8 rfl
  obtain rfl := Y.lenS 9 rfl
  obtain rfl := Y.lenS 10 rfl
  refine ⟨_, _, _, _, _, _, _, _, _, _, _, _, rb2, rfl, ?_⟩
  intro hv7
  have Y : Sy _ _ hv7 [_, _, _, _, _, _, _, _, _, _, _, _] := Y.junk _
  clear_value hv7
  intro hv8
  have Y : Sy _ _ hv8 [_, _, _, _, _, _, _, _, _, _, _, _] := ((((Y.stJ 11 rfl _ _).stJ 11 rfl _ _).stJ 11 rfl _ _).stJ 11 rfl _ _)
  clear_value hv8
  refine callX_sy (T _ (Hp.nil _)) (fun _ _ ⟨_, _, _, _, _, p, _⟩ => p.fr) (allc (fun h => by cases h) (allc (fun h => by cases h) alln)) ?_
  rintro v5 hv9 ⟨r3, rA3, rL3, rC3, r_4, PP, rfl, T⟩
  have Y : Sy _ _ hv9 [_, _, _, _, _, _, _, _, _, _, _, _, _] := Y.callV PP ⟨rfl, trivial⟩
  clear PP
  obtain rfl := Y.lenS 12 rfl
  refine ⟨r3, _, _, _, rfl, ?_⟩
  refine callX_sy (T _ _ _ _ ((Y.turn 12 rfl To.slvw).pick [12] rfl).hp) (fun _ _ ⟨_, _, _, _, _, _, p, _⟩ => p.fr) (allc (fun h => by cases h) (allc (fun h => by cases h) alln)) ?_
  rintro v6 hv10 ⟨raA9, raL9, raC9, ra_9, rb3, rc, PP, rfl, T⟩
  have Y : Sy _ _ hv10 [_, _, _, _, _, _, _, _, _, _, _, _, _, _] := Y.callV PP ⟨rfl, trivial⟩
  clear PP
  obtain rfl := Y.lenS 13 rfl
  refine ⟨_, _, _, rb3, rc, rfl, ?_⟩
  refine callX_sy (T _ (Hp.nil _)) (fun _ _ ⟨_, _, _, _, _, p, _⟩ => p.fr) (allc (fun h => by cases h) (allc (fun h => by cases h) alln)) ?_
  rintro v7 hv11 ⟨r4, rA4, rL4, rC4, r_5, PP, rfl, T⟩
  have Y : Sy _ _ hv11 [_, _, _, _, _, _, _, _, _, _, _, _, _, _, _] := Y.callV PP ⟨rfl, trivial⟩
  clear PP
  obtain rfl := Y.lenS 14 rfl
  refine ⟨r4, _, _, _, rfl, ?_⟩
  refine callX_sy (T _ _ _ _ ((Y.turn 14 rfl To.slvw).pick [14] rfl).hp) (fun _ _ ⟨_, _, _, _, _, p, _⟩ => p.fr) (allc (fun h => by cases h) (allc (fun h => by cases h) alln)) ?_
  rintro v8 hv12 ⟨raA10, raL10, raC10, ra_10, rb4, PP, rfl, T⟩
  have Y : Sy _ _ hv12 [_, _, _, _, _, _, _, _, _, _, _, _, _, _, _, _] := Y.callV PP ⟨rfl, trivial⟩
  clear PP
  obtain rfl := Y.lenS 15 rfl
  refine ⟨_, _, _, rb4, rfl, ?_⟩
  refine callX_sy (T _ (Hp.nil _)) (fun _ _ ⟨_, _, _, _, _, p, _⟩ => p.fr) (allc (fun h => by cases h) (allc (fun h => by cases h) alln)) ?_
  rintro v9 hv13 ⟨r5, rA5, rL5, rC5, r_6, PP, rfl, T⟩
  have Y : Sy _ _ hv13 [_, _, _, _, _, _, _, _, _, _, _, _, _, _, _, _, _] := Y.callV PP ⟨rfl, trivial⟩
  clear PP
  obtain rfl := Y.lenS 16 rfl
  refine ⟨r5, _, _, _, rfl, ?_⟩
  refine callX_sy (T _ _ _ _ ((Y.turn 16 rfl To.slvw).pick [16] rfl).hp) (fun _ _ ⟨_, _, _, _, _, _, _, _, _, p, _⟩ => p.fr) (allc (fun h => by cases h) (allc (fun h => by cases h) alln)) ?_
  rintro v10 hv14 ⟨raA11, raL11, raC11, ra_11, rbA, rbL, rbC, rb_2, rc2, PP, rfl, T⟩
  have Y : Sy _ _ hv14 [_, _, _, _, _, _, _, _, _, _, _, _, _, _, _, _, _, _, _] := Y.callV PP ⟨rfl, ⟨rfl, trivial⟩⟩
  clear PP
  obtain rfl := Y.lenS 17 rfl
  obtain rfl := Y.lenS 18 rfl
  refine ⟨_, _, _, _, _, _, rc2, rfl, ?_⟩
  refine callX_sy (T _ (Hp.nil _)) (fun _ _ ⟨_, _, _, _, _, p, _⟩ => p.fr) (allc (fun h => by cases h) (allc (fun h => by cases h) alln)) ?_
  rintro v11 hv15 ⟨r6, rA6, rL6, rC6, r_7, PP, rfl, T⟩
  have Y : Sy _ _ hv15 [_, _, _, _, _, _, _, _, _, _, _, _, _, _, _, _, _, _, _, _] := Y.callV PP ⟨rfl, trivial⟩
  clear PP
  obtain rfl := Y.lenS 19 rfl
  refine ⟨r6, _, _, _, rfl, ?_⟩
  refine callX_sy (T _ _ _ _ ((Y.turn 19 rfl To.slvw).pick [19] rfl).hp) (fun _ _ ⟨_, _, _, p, _⟩ => p.fr) (allc (fun h => by cases h) (allc (fun h => by cases h) alln)) ?_
  rintro v12 hv16 ⟨rF, rX, rY, PP, rfl, T⟩
  have Y : Sy _ _ hv16 [_, _, _, _, _, _, _, _, _, _, _, _, _, _, _, _, _, _, _, _] := Y.gr PP.fr
  clear PP
  refine ⟨_, _, _, rfl, ?_⟩
  refine cnd_imp T (fun T => ?_) (fun T => ?_)
  · exact ⟨_, Y.pick [] rfl, rfl, T⟩
  · refine cnd_imp T (fun T => ?_) (fun T => ?_)
    · refine cnd_imp T (fun T => ?_) (fun T => ?_)
      · refine cnd_imp T (fun T => ?_) (fun T => ?_)
        · obtain ⟨q, q_2, T⟩ := T
          obtain ⟨b_2, hb, ho, ra_12, hx⟩ := Y.atS 10 rfl q q_2
          refine ⟨b_2, 0, hb, q, q_2, ?_⟩
          replace T := T ra_12 hx
          refine ⟨_, Y.cellS 10 rfl hb (t := 0) hx rfl, ?_⟩
          refine cnd_imp T (fun T => ?_) (fun T => ?_)
          · refine cnd_imp T (fun T => ?_) (fun T => ?_)
            · refine cnd_imp T (fun T => ?_) (fun T => ?_)
              · obtain ⟨q_3, q_4, T⟩ := T
                obtain ⟨b_3, hb_2, ho_2, ra_13, hx_2⟩ := Y.atS 13 rfl q_3 q_4
                refine ⟨b_3, 0, hb_2, q_3, q_4, ?_⟩
                replace T := T ra_13 hx_2
                refine ⟨_, Y.cellS 13 rfl hb_2 (t := 0) hx_2 rfl, ?_⟩
                refine cnd_imp T (fun T => ?_) (fun T => ?_)
                · refine cnd_imp T (fun T => ?_) (fun T => ?_)
                  · refine cnd_imp T (fun T => ?_) (fun T => ?_)
                    · refine cnd_imp T (fun T => ?_) (fun T => ?_)
                      · refine cnd_imp T (fun T => ?_) (fun T => ?_)
                        · refine cnd_imp T (fun T => ?_) (fun T => ?_)
                          · refine cnd_imp T (fun T => ?_) (fun T => ?_)
                            · exact ⟨_, Y.pick [] rfl, rfl, T⟩
                            · exact ⟨_, Y.pick [] rfl, rfl, T⟩
                          · exact ⟨_, Y.pick [] rfl, rfl, T⟩
                        · exact ⟨_, Y.pick [] rfl, rfl, T⟩
                      · exact ⟨_, Y.pick [] rfl, rfl, T⟩
                    · exact ⟨_, Y.pick [] rfl, rfl, T⟩
                  · exact ⟨_, Y.pick [] rfl, rfl, T⟩
                · exact ⟨_, Y.pick [] rfl, rfl, T⟩
              · exact ⟨_, Y.pick [] rfl, rfl, T⟩
            · exact ⟨_, Y.pick [] rfl, rfl, T⟩
          · exact ⟨_, Y.pick [] rfl, rfl, T⟩
        · exact ⟨_, Y.pick [] rfl, rfl, T⟩
      · exact ⟨_, Y.pick [] rfl, rfl, T⟩
    · exact ⟨_, Y.pick [] rfl, rfl, T⟩
end Go.Proofs.Ytmcloipjlihhlaa.N
