/- Functions: what is left to be shown of each, over memory and without: printed by program, tied to the loaded functions by the kernel. Conditions: none. -/
import Derived.Test.YtmcloipjlihhlaaSEnv
import Derived.Test.YtmcloipjlihhlaaYMore
import Derived.Test.YtmcloipjlihhlaaTRef4
namespace Go.Proofs.Ytmcloipjlihhlaa.N
open Go.Proofs.Ytmcloipjlihhlaa
open Go.X
set_option maxRecDepth 100000
set_option linter.unusedVariables false
set_option linter.unusedSimpArgs false
set_option maxHeartbeats 2000000

/-- (*tracery/traceryref4.Graph).Net -/
def S197 (gP : Option Addr) (h : Heap) (R : Value → Heap → Prop) : Prop :=
  let hv : Heap := h.push (.cells #[.int .i64 0, .slice none 0 0] 26)
  ∃ b o, gP = some ⟨b, o, none⟩ ∧ ∃ (xA : Option Addr) (xL xC : Nat), hcell hv b o = some (.slice xA xL xC) ∧ let hv2 : Heap := hv.push (.cells #[.int .i64 0, .slice none 0 0] 26)
  let hv3 : Heap := hset (hset hv2 hv.size 0 (.int .i64 ((xL : Nat) : Int))) hv.size (0 + 1) (.slice none 0 0)
  ∃ (Iv : List Value → Heap → Prop) (m : List Value → Heap → Nat), Iv [.slice none 0 0, .int .i64 0, .int .i64 ((xL : Nat) : Int), .slice none 0 0] hv3 ∧ -- loop 0: ['ids', 'i']
  ∀ (idsA : Option Addr) (idsL idsC : Nat), ∀ i : Int, ∀ c0 : Int, ∀ (c1A : Option Addr) (c1L c1C : Nat), ∀ hv4, Iv [.slice idsA idsL idsC, .int .i64 i, .int .i64 c0, .slice c1A c1L c1C] hv4 →
  ∃ b2 o2, gP = some ⟨b2, o2, none⟩ ∧ ∃ (xA2 : Option Addr) (xL2 xC2 : Nat), hcell hv4 b2 (o2 + 1) = some (.slice xA2 xL2 xC2) ∧ cnd (decide (i < ((xL2 : Nat) : Int)))
    (∃ b3 o3, gP = some ⟨b3, o3, none⟩ ∧ ∃ (xA3 : Option Addr) (xL3 xC3 : Nat), hcell hv4 b3 (o3 + 1) = some (.slice xA3 xL3 xC3) ∧ ∃ b4 o4, xA3 = some ⟨b4, o4, none⟩ ∧ 0 ≤ i ∧ i < (xL3 : Nat) ∧ ∃ x : Int, hcell hv4 b4 (o4 + (Int.toNat i) * 3) = some (.int .i64 x) ∧ ∃ x2 : Int, hcell hv4 b4 ((o4 + (Int.toNat i) * 3) + 1) = some (.int .i64 x2) ∧ ∃ x3 : Int, hcell hv4 b4 (((o4 + (Int.toNat i) * 3) + 1) + 1) = some (.int .i64 x3) ∧ let hv5 : Heap := hv4.push (.cells #[.int .i64 0, .int .i64 0, .int .i64 0] 239)
    let hv6 : Heap := hset (hset (hset hv5 hv4.size 0 (.int .i64 x)) hv4.size (0 + 1) (.int .i64 x2)) hv4.size ((0 + 1) + 1) (.int .i64 x3)
    callX Try.prog 219 #[.pointer gP, .int .i64 x2] hv6 [hv4.size, hv.size, h.size] fun v hv7 =>
    ∃ r : Int, v = .int .i64 r ∧
    Fr [] hv6 hv7 ∧
    callX Try.prog 219 #[.pointer gP, .int .i64 x3] hv7 [hv4.size, hv.size, h.size] fun v2 hv8 =>
    ∃ r2 : Int, v2 = .int .i64 r2 ∧
    Fr [] hv6 hv8 ∧
    let hv9 : Heap := hv8.push (.cells #[.int .i64 r, .int .i64 r2] 35)
    Fr [] hv6 hv9 ∧
    ∃ old, Ownd hv9 35 2 c1A c1L c1C old ∧ (∀ b ∈ ([hv8.size, hv4.size, hv.size, h.size] : List Nat), b ∉ blkOf c1A) ∧ (c1L + 1) * 16 ≤ 140737488355328 ∧ (c1L + 1) ≤ maxLen ∧
    ∀ sA sC hv10, Ownd hv10 35 2 sA (c1L + 1) sC (old ++ [.int .i64 r, .int .i64 r2]) → Fr (blkOf c1A) hv9 hv10 → ((sA = c1A ∧ sC = c1C) ∨ ∃ g, sA = some ⟨g, 0, none⟩ ∧ hv9.size ≤ g) → (c1C < (c1L + 1) → Fr [] hv9 hv10) →
    let hv11 : Heap := hset hv10 hv.size 1 (.slice sA (c1L + 1) sC)
    let hv12 : Heap := hv11.push (.cells #[.int .i64 x] 3)
    ∃ old2, Ownd hv12 3 1 idsA idsL idsC old2 ∧ (∀ b ∈ ([hv11.size, hv8.size, hv4.size, hv.size, h.size] : List Nat), b ∉ blkOf idsA) ∧ (idsL + 1) * 8 ≤ 140737488355328 ∧ (idsL + 1) ≤ maxLen ∧
    ∀ sA2 sC2 hv13, Ownd hv13 3 1 sA2 (idsL + 1) sC2 (old2 ++ [.int .i64 x]) → Fr (blkOf idsA) hv12 hv13 → ((sA2 = idsA ∧ sC2 = idsC) ∨ ∃ g, sA2 = some ⟨g, 0, none⟩ ∧ hv12.size ≤ g) → (idsC < (idsL + 1) → Fr [] hv12 hv13) →
    Iv [.slice sA2 (idsL + 1) sC2, .int .i64 (IntKind.i64.wrap (i + (1 : Int))), .int .i64 c0, .slice sA (c1L + 1) sC] hv13 ∧ m [.slice sA2 (idsL + 1) sC2, .int .i64 (IntKind.i64.wrap (i + (1 : Int))), .int .i64 c0, .slice sA (c1L + 1) sC] hv13 < m [.slice idsA idsL idsC, .int .i64 i, .int .i64 c0, .slice c1A c1L c1C] hv4)
    (∃ b5 o5, gP = some ⟨b5, o5, none⟩ ∧ ∃ (xA4 : Option Addr) (xL4 xC4 : Nat), hcell hv4 b5 o5 = some (.slice xA4 xL4 xC4) ∧ ∃ xs : List Value, Reads hv4 1 xA4 xL4 xs ∧ (xA4 = none → xC4 = 0) ∧ (∀ v ∈ xs, v.oneCell' = true) ∧ ∃ old3, Ownd hv4 3 1 none 0 0 old3 ∧ (∀ b ∈ ([hv.size, h.size] : List Nat), b ∉ blkOf none) ∧ (0 + xL4) * 8 ≤ 140737488355328 ∧ (0 + xL4) ≤ maxLen ∧
    ∀ sA3 sC3 hv14, Ownd hv14 3 1 sA3 (0 + xL4) sC3 (old3 ++ xs) → Fr (blkOf none) hv4 hv14 → ((sA3 = none ∧ sC3 = 0) ∨ ∃ g, sA3 = some ⟨g, 0, none⟩ ∧ hv4.size ≤ g) → (0 < (0 + xL4) → Fr [] hv4 hv14) →
    Fr [] hv4 hv14 ∧
    let hv15 : Heap := hset (hset hv14 h.size 0 (.int .i64 c0)) h.size (0 + 1) (.slice c1A c1L c1C)
    R (.tuple #[.agg #[.int .i64 c0, .slice c1A c1L c1C], .slice sA3 (0 + xL4) sC3, .slice idsA idsL idsC]) hv15)
theorem calls197 {h : Heap} {R : Value → Heap → Prop} (gP : Option Addr) (H : S197 gP h R) : CallsH Try.prog 197 #[.pointer gP] h R := by
  have e : S197 gP h R = FX (envX [2, 5, 8, 45, 51] 61) { loops := [(0, ⟨[0, 2, 5], [6, 7], [2], [5]⟩)], joins := [], blocks := [], draws := [(7, ⟨12, false⟩), (9, ⟨8008, false⟩)] } Try.f197 (Try.f197.body.getD .skip) [.pointer gP] h R := by kernel_rfl
  exact calls_of_FX (envX_ok _ _) Try.func197 (by kernel_rfl) (by kernel_rfl) (by kernel_rfl) (e ▸ H)
/-- (*tracery/traceryref4.Graph).Net -/
def Ok197v (nodesV : List Int) (edgesV : List (Int × Int × Int)) (nodeV : Int) (edgeIDV : Int) (lastV : Int) (R : Int → List (Int × Int) → List Int → List Int → Prop) : Prop :=
  ∀ (h : Heap) (gB2 gO : Nat) (nodesVA : Option Addr) (nodesVL nodesVC : Nat) (edgesVA : Option Addr) (edgesVL edgesVC : Nat) (marksVA : Option Addr) (marksVL marksVC : Nat), Hp h [Ck.vob gB2 gO [.slice nodesVA nodesVL nodesVC, .slice edgesVA edgesVL edgesVC, .int .i64 nodeV, .int .i64 edgeIDV, .slice marksVA marksVL marksVC, .int .i64 lastV], Ck.vw eI nodesVA nodesVL nodesVC nodesV, Ck.vw e3 edgesVA edgesVL edgesVC edgesV] → CallsH Try.prog 197 #[.pointer (some ⟨gB2, gO, none⟩)] h fun v h' => ∃ (nV : Int) (edgesVA2 : Option Addr) (edgesVL2 edgesVC2 : Nat) (edgesV2 : List (Int × Int)) (rbVA : Option Addr) (rbVL rbVC : Nat) (rbV : List Int) (rcVA : Option Addr) (rcVL rcVC : Nat) (rcV : List Int), Sy h [] h' [Ck.sl eP 35 edgesVA2 edgesVL2 edgesVC2 edgesV2, Ck.sl eI 3 rbVA rbVL rbVC rbV, Ck.sl eI 3 rcVA rcVL rcVC rcV] ∧ v = .tuple #[.agg #[.int .i64 nV, .slice edgesVA2 edgesVL2 edgesVC2], .slice rbVA rbVL rbVC, .slice rcVA rcVL rcVC] ∧ R nV edgesV2 rbV rcV
theorem Ok197v.mono {nodesV edgesV nodeV edgeIDV lastV} {R R' : Int → List (Int × Int) → List Int → List Int → Prop} (H : Ok197v nodesV edgesV nodeV edgeIDV lastV R) (kz : ∀ nV edgesV2 rbV rcV, R nV edgesV2 rbV rcV → R' nV edgesV2 rbV rcV) : Ok197v nodesV edgesV nodeV edgeIDV lastV R' :=
  fun h gB2 gO nodesVA nodesVL nodesVC edgesVA edgesVL edgesVC marksVA marksVL marksVC hp => (H h gB2 gO nodesVA nodesVL nodesVC edgesVA edgesVL edgesVC marksVA marksVL marksVC hp).mono fun _ _ ⟨nV, edgesVA2, edgesVL2, edgesVC2, edgesV2, rbVA, rbVL, rbVC, rbV, rcVA, rcVL, rcVC, rcV, P, e, q⟩ => ⟨nV, edgesVA2, edgesVL2, edgesVC2, edgesV2, rbVA, rbVL, rbVC, rbV, rcVA, rcVL, rcVC, rcV, P, e, kz _ _ _ _ q⟩
def T197v (nodesV : List Int) (edgesV : List (Int × Int × Int)) (nodeV : Int) (edgeIDV : Int) (lastV : Int) (R : Int → List (Int × Int) → List Int → List Int → Prop) : Prop :=
  ∃ (Iv : List Int → Int → Int → List (Int × Int) → Prop) (m : List Int → Int → Int → List (Int × Int) → Nat), Iv ([] : List Int) 0 ((nodesV.length : Nat) : Int) ([] : List (Int × Int)) ∧
  ∀ ids : List Int, ∀ i : Int, ∀ c0 : Int, ∀ c1 : List (Int × Int), Iv ids i c0 c1 →
  cnd (decide (i < ((edgesV.length : Nat) : Int)))
    (0 ≤ i ∧ i < ((edgesV.length : Nat) : Int) ∧ ∀ x_2 : (Int × Int × Int), edgesV[(Int.toNat i)]? = some x_2 → Ok219v nodesV edgesV nodeV edgeIDV lastV x_2.2.1 (fun r =>
    Ok219v nodesV edgesV nodeV edgeIDV lastV x_2.2.2 (fun r2 =>
    (c1.length + 1) < 1000000000000 ∧ (ids.length + 1) < 1000000000000 ∧ Iv (ids ++ [x_2.1]) (IntKind.i64.wrap (i + (1 : Int))) c0 (c1 ++ [(r, r2)]) ∧ m (ids ++ [x_2.1]) (IntKind.i64.wrap (i + (1 : Int))) c0 (c1 ++ [(r, r2)]) < m ids i c0 c1)))
    ((0 + nodesV.length) < 1000000000000 ∧ R c0 c1 (([] : List Int) ++ nodesV) ids)
theorem ok197v {nodesV edgesV nodeV edgeIDV lastV} {R : Int → List (Int × Int) → List Int → List Int → Prop} (T : T197v nodesV edgesV nodeV edgeIDV lastV R) : Ok197v nodesV edgesV nodeV edgeIDV lastV R := by
  intro h gB2 gO nodesVA nodesVL nodesVC edgesVA edgesVL edgesVC marksVA marksVL marksVC H
  have Y : Sy h [] h _ := Sy.startM H rfl
  obtain rfl := Y.lenV 1 rfl
  obtain rfl := Y.lenV 2 rfl
  apply calls197
  unfold S197
  unfold T197v at T
  intro hv
  have Y : Sy _ _ hv [_, _, _, _] := Y.junk _
  clear_value hv
  refine ⟨gB2, gO, rfl, ?_⟩
  refine ⟨_, _, _, Y.cellW 0 rfl 0 rfl, ?_⟩
  intro hv2
  have Y : Sy _ _ hv2 [_, _, _, _, _] := Y.junk _
  clear_value hv2
  intro hv3
  have Y : Sy _ _ hv3 [_, _, _, _, _] := ((Y.stJ 4 rfl _ _).stJ 4 rfl _ _)
  clear_value hv3
  have Y : Sy _ _ _ [_, _, _, _, _, _] := Y.nilS eI 3
  have Y : Sy _ _ _ [_, _, _, _, _, _, _] := Y.nilS eP 35
  obtain ⟨Iv, m, T0, T1⟩ := T
  obtain ⟨B, hB, YB⟩ := Y.cut [5, 6] [0, 1, 2, 3, 4] rfl
  obtain ⟨JJ, hJJ⟩ : ∃ JJ : Nat → List Value → Heap → Prop, JJ = (fun k lz h' => ∃ (idsA : Option Addr) (idsL idsC : Nat) (ids : List Int) (i : Int) (c0 : Int) (c1A : Option Addr) (c1L c1C : Nat) (c1 : List (Int × Int)), lz = [.slice idsA idsL idsC, .int .i64 i, .int .i64 c0, .slice c1A c1L c1C] ∧ Sy h [] h' ([Ck.sl eI 3 idsA idsL idsC ids, Ck.sl eP 35 c1A c1L c1C c1] ++ B) ∧ Iv ids i c0 c1 ∧ m ids i c0 c1 = k) := ⟨_, rfl⟩
  refine ⟨fun lz h' => ∃ k, JJ k lz h', Lm JJ, ?_, ?_⟩
  · subst hJJ hB
    exact ⟨_, _, _, _, _, _, _, _, _, _, _, rfl, YB, T0, rfl⟩
  · clear YB T0 Y
    intro idsA idsL idsC i c0 c1A c1L c1C hv4 hI
    obtain ⟨k, hI, hm⟩ := loopIn hI
    subst hJJ hB
    obtain ⟨idsA, idsL, idsC, ids, i, c0, c1A, c1L, c1C, c1, e, Y, T, rfl⟩ := hI
    cases e
    obtain rfl := Y.lenS 0 rfl
    obtain rfl := Y.lenS 1 rfl
    replace T := T1 ids i c0 c1 T
    have Y : Sy _ _ _ [_, _, _, _, _, _, _] := Y
    refine ⟨gB2, gO, rfl, ?_⟩
    refine ⟨_, _, _, Y.cellW 2 rfl 1 rfl, ?_⟩
    refine cnd_imp T (fun T => ?_) (fun T => ?_)
    · refine ⟨gB2, gO, rfl, ?_⟩
      refine ⟨_, _, _, Y.cellW 2 rfl 1 rfl, ?_⟩
      obtain ⟨q, q_2, T⟩ := T
      obtain ⟨b_2, o_2, hb, hr, x_2, hx⟩ := Y.atV 4 rfl q q_2
      refine ⟨b_2, o_2, hb, q, q_2, ?_⟩
      replace T := T x_2 hx
      refine ⟨_, Y.cellV 4 rfl hb (t := 0) hx rfl, ?_⟩
      refine ⟨_, Y.cellV 4 rfl hb (t := 1) hx rfl, ?_⟩
      refine ⟨_, Y.cellV 4 rfl hb (t := 2) hx rfl, ?_⟩
      intro hv5
      have Y : Sy _ _ hv5 [_, _, _, _, _, _, _, _] := Y.junk _
      clear_value hv5
      intro hv6
      have Y : Sy _ _ hv6 [_, _, _, _, _, _, _, _] := (((Y.stJ 7 rfl _ _).stJ 7 rfl _ _).stJ 7 rfl _ _)
      clear_value hv6
      have Y0 := Y
      have F : Fr [] hv6 hv6 := Fr.refl _ _
      refine callX_sy (T _ _ _ _ _ _ _ _ _ _ _ _ (Y.pick [2, 3, 4] rfl).hp) (fun _ _ ⟨_, p, _⟩ => p.fr) (allc (fun h => by cases h) (allc (fun h => by cases h) (allc (fun h => by cases h) alln))) ?_
      rintro v hv7 ⟨r, PP, rfl, T⟩
      have F : Fr _ _ hv7 := F.trans PP.fr.nil
      have fshv7 := F.size
      have Y : Sy _ _ hv7 [_, _, _, _, _, _, _, _] := Y.gr PP.fr
      clear PP
      refine ⟨r, rfl, ?_⟩
      refine ⟨F, ?_⟩
      refine callX_sy (T _ _ _ _ _ _ _ _ _ _ _ _ (Y.pick [2, 3, 4] rfl).hp) (fun _ _ ⟨_, p, _⟩ => p.fr) (allc (fun h => by cases h) (allc (fun h => by cases h) (allc (fun h => by cases h) alln))) ?_
      rintro v2 hv8 ⟨r2, PP, rfl, T⟩
      have F : Fr _ _ hv8 := F.trans PP.fr.nil
      have fshv8 := F.size
      have Y : Sy _ _ hv8 [_, _, _, _, _, _, _, _] := Y.gr PP.fr
      clear PP
      refine ⟨r2, rfl, ?_⟩
      refine ⟨F, ?_⟩
      intro hv9
      have Y : Sy _ _ hv9 [_, _, _, _, _, _, _, _, _] := Y.junk _
      have F : Fr _ _ hv9 := F.pushr _
      have fshv9 := F.size
      clear_value hv9
      refine ⟨F, ?_⟩
      obtain ⟨q_3, T⟩ := T
      refine ⟨_, Y.ownS 1 rfl, (allc (Y.nJ 1 8 rfl rfl rfl) (allc (Y.nJ 1 7 rfl rfl rfl) (allc (Y.nJ 1 6 rfl rfl rfl) (allc (Y.nJ 1 5 rfl rfl rfl) alln)))), by first | exact appB q_3 (by decide) | omega, by first | exact appM q_3 | (simp [maxLen]; omega), ?_⟩
      intro sA sC hv10 ow fA gA gB
      have Y : Sy _ _ hv10 [_, _, _, _, _, _, _, _, _] := Y.appS 1 rfl ([(r, r2)] : List (Int × Int)) ow fA gA rfl rfl
      intro hv11
      have Y : Sy _ _ hv11 [_, _, _, _, _, _, _, _, _] := (Y.stJ 6 rfl _ _)
      clear_value hv11
      intro hv12
      have Y : Sy _ _ hv12 [_, _, _, _, _, _, _, _, _, _] := Y.junk _
      clear_value hv12
      obtain ⟨q_4, T⟩ := T
      refine ⟨_, Y.ownS 0 rfl, (allc (Y.nJ 0 9 rfl rfl rfl) (allc (Y.nJ 0 8 rfl rfl rfl) (allc (Y.nJ 0 7 rfl rfl rfl) (allc (Y.nJ 0 6 rfl rfl rfl) (allc (Y.nJ 0 5 rfl rfl rfl) alln))))), by first | exact appB q_4 (by decide) | omega, by first | exact appM q_4 | (simp [maxLen]; omega), ?_⟩
      intro sA2 sC2 hv13 ow fA gA gB
      have Y : Sy _ _ hv13 [_, _, _, _, _, _, _, _, _, _] := Y.appS 0 rfl ([x_2.1] : List Int) ow fA gA rfl rfl
      exact loopBack hm ⟨_, _, _, _, _, _, _, _, _, _, rfl, Y.pick [0, 1, 2, 3, 4, 5, 6] rfl, T.1, rfl⟩ T.2
    · have Y0 := Y
      have F : Fr [] hv4 hv4 := Fr.refl _ _
      refine ⟨gB2, gO, rfl, ?_⟩
      refine ⟨_, _, _, Y0.cellW 2 rfl 0 rfl, ?_⟩
      refine ⟨_, Y.readsV 3 rfl, (Y.capV 3 rfl).2, En.l_one _, ?_⟩
      have Y : Sy _ _ _ [_, _, _, _, _, _, _, _] := Y.nilS eI 3
      obtain ⟨q_5, T⟩ := T
      refine ⟨_, Y.ownS 7 rfl, (allc (Y.nJ 7 6 rfl rfl rfl) (allc (Y.nJ 7 5 rfl rfl rfl) alln)), by first | exact appB q_5 (by decide) | omega, by first | exact appM q_5 | (simp [maxLen]; omega), ?_⟩
      intro sA3 sC3 hv14 ow fA gA gB
      have Y : Sy _ _ hv14 [_, _, _, _, _, _, _, _] := Y.appS 7 rfl nodesV ow fA gA rfl (by first | rfl | simp)
      have ns := F.appIn nil_in gA (Nat.le_refl _)
      have F : Fr _ _ hv14 := F.comp fA nil_in
      have fshv14 := F.size
      refine ⟨F, ?_⟩
      intro hv15
      have Y : Sy _ _ hv15 [_, _, _, _, _, _, _, _] := ((Y.stJ 5 rfl _ _).stJ 5 rfl _ _)
      clear_value hv15
      exact ⟨_, _, _, _, _, _, _, _, _, _, _, _, _, Y.pick [1, 7, 0] rfl, rfl, T⟩
end Go.Proofs.Ytmcloipjlihhlaa.N
