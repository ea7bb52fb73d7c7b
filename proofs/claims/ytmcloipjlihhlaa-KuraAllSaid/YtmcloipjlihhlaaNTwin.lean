/- Package tracerylaw3: a net's twin, a mark behind its edges; is it as it was? Conditions: none. -/
import Derived.Test.YtmcloipjlihhlaaSKeep
import Derived.Test.YtmcloipjlihhlaaNKeep
set_option linter.unusedSimpArgs false
set_option linter.unusedVariables false
namespace Go.Proofs.Ytmcloipjlihhlaa.N
open Go.X Go.Proofs.Ytmcloipjlihhlaa
set_option maxRecDepth 100000

theorem okTwin {g : Int} {es : List (Int × Int)} {R : Int → List (Int × Int) → Prop} (hl : es.length ≤ 1000000) (z : R g es) : Ok63 g es R := by
  intro h gA gL gC H
  have Y : Sy h [] h _ := Sy.startM H rfl
  obtain rfl := Y.lenV 0 rfl
  apply calls63
  unfold S63
  have fin : ∀ {hw : Heap} {A : Option Addr} {C : Nat}, Sy h [] hw [Ck.slm eP 35 A (0 + es.length) C (([] : List (Int × Int)) ++ es) [(-7, 7)]] →
      ∃ (nV : Int) (edgesVA : Option Addr) (edgesVL edgesVC : Nat) (edgesV2 : List (Int × Int)), Sy h [] hw [Ck.slm eP 35 edgesVA edgesVL edgesVC edgesV2 [(-7, 7)]] ∧ (.agg #[.int .i64 g, .slice A (Int.toNat ((es.length : Nat) : Int) - 0) (C - 0)] : Value) = .agg #[.int .i64 nV, .slice edgesVA edgesVL edgesVC] ∧ R nV edgesV2 := by
    intro hw A C Y
    rw [Nat.zero_add, List.nil_append] at Y
    exact ⟨g, A, es.length, C, es, Y, by simp, z⟩
  intro hv
  have Y : Sy _ _ hv [_, _] := Y.junk _
  clear_value hv
  intro hv2
  have Y : Sy _ _ hv2 [_, _, _] := Y.junk _
  clear_value hv2
  have Y0 := Y
  obtain ⟨Mx, hMx⟩ := Y.mt [] []
  refine ⟨Mx, ?_⟩
  subst hMx
  refine ⟨(allc (Y0.nMJ 2 [] [] rfl rfl) (allc (Y0.nMJ 1 [] [] rfl rfl) alln)), ?_⟩
  have F : Fr _ hv2 hv2 := Y0.frM [] []
  refine ⟨?_, ?_⟩
  · refine ⟨_, Y.readsV 0 rfl, (Y.capV 0 rfl).2, En.l_one _, ?_⟩
    have Y : Sy _ _ _ [_, _, _, _] := Y.nilS eP 35
    refine ⟨_, Y.ownS 3 rfl, (allc (Y.nJ 3 2 rfl rfl rfl) (allc (Y.nJ 3 1 rfl rfl rfl) alln)), by omega, by simp only [maxLen]; omega, ?_⟩
    intro sA sC hv3 ow fA gA gB
    have Y : Sy _ _ hv3 [_, _, _, _] := Y.appS 3 rfl es ow fA gA rfl (by first | rfl | simp)
    have ns := F.appIn nil_in gA (Nat.le_refl _)
    have F : Fr _ _ hv3 := F.comp fA nil_in
    have fshv3 := F.size
    refine ⟨F, ?_⟩
    intro hv4
    have Y : Sy _ _ hv4 [_, _, _, _, _] := Y.junk _
    have F : Fr _ _ hv4 := F.pushr _
    have fshv4 := F.size
    clear_value hv4
    refine ⟨F, ?_⟩
    refine ⟨_, Y.ownS 3 rfl, (allc (Y.nJ 3 4 rfl rfl rfl) (allc (Y.nJ 3 2 rfl rfl rfl) (allc (Y.nJ 3 1 rfl rfl rfl) alln))), by omega, by simp only [maxLen]; omega, ?_⟩
    intro sA2 sC2 hv5 ow fA gA gB
    have Y : Sy _ _ hv5 [_, _, _, _, _] := Y.appS 3 rfl ([((-7), 7)] : List (Int × Int)) ow fA gA rfl rfl
    have F : Fr _ _ hv5 := F.comp fA ns
    refine ⟨F, by omega, by have := (Y.capS 3 rfl).1; omega, ?_⟩
    rw [slice0]
    intro hv8
    have Y : Sy _ _ hv8 [_, _, _, _, _] := ((Y.stJ 2 rfl _ _).stJ 2 rfl _ _)
    clear_value hv8
    exact fin ((Y.turn 3 rfl (To.slm [((-7 : Int), (7 : Int))])).pick [3] rfl)
  · intro hv6
    have Y : Sy _ _ hv6 [_, _, _, _] := Y.junk _
    have F : Fr _ _ hv6 := F.pushr _
    have fshv6 := F.size
    clear_value hv6
    refine ⟨F, ?_⟩
    refine ⟨_, Y.readsV 0 rfl, (Y.capV 0 rfl).2, En.l_one _, ?_⟩
    have Y : Sy _ _ _ [_, _, _, _, _] := Y.nilS eP 35
    refine ⟨_, Y.ownS 4 rfl, (allc (Y.nJ 4 3 rfl rfl rfl) (allc (Y.nJ 4 2 rfl rfl rfl) (allc (Y.nJ 4 1 rfl rfl rfl) alln))), by omega, by simp only [maxLen]; omega, ?_⟩
    intro sA3 sC3 hv7 ow fA gA gB
    have Y : Sy _ _ hv7 [_, _, _, _, _] := Y.appS 4 rfl es ow fA gA rfl (by first | rfl | simp)
    have ns_3 := F.appIn nil_in gA fshv6
    have F : Fr _ _ hv7 := F.comp fA nil_in
    have fshv7 := F.size
    refine ⟨F, ?_⟩
    refine ⟨_, Y.ownS 4 rfl, (allc (Y.nJ 4 3 rfl rfl rfl) (allc (Y.nJ 4 2 rfl rfl rfl) (allc (Y.nJ 4 1 rfl rfl rfl) alln))), by omega, by simp only [maxLen]; omega, ?_⟩
    intro sA4 sC4 hv8 ow fA gA gB
    have Y : Sy _ _ hv8 [_, _, _, _, _] := Y.appS 4 rfl ([((-7), 7)] : List (Int × Int)) ow fA gA rfl rfl
    have F : Fr _ _ hv8 := F.comp fA ns_3
    refine ⟨F, by omega, by have := (Y.capS 4 rfl).1; omega, ?_⟩
    rw [slice0]
    intro hv14
    have Y : Sy _ _ hv14 [_, _, _, _, _] := ((Y.stJ 2 rfl _ _).stJ 2 rfl _ _)
    clear_value hv14
    exact fin ((Y.turn 4 rfl (To.slm [((-7 : Int), (7 : Int))])).pick [4] rfl)
theorem cnd_neK {x y : Int} {A B : Prop} (a : x ≠ y → A) (b : x = y → B) : cnd (x != y) A B := by
  by_cases q : x = y
  · subst q; rw [bne_self_eq_false]; exact ⟨fun h => (by cases h), fun _ => b rfl⟩
  · exact ⟨fun _ => a q, fun h => absurd (by simpa using h) q⟩
theorem okSameK {g : Int} {es : List (Int × Int)} {R : Bool → Prop} (hl : es.length ≤ 1000000) (h : R true) : Ok40 g es g es R := by
  apply ok40
  unfold T40
  refine cnd_neK (fun q => absurd rfl q) fun _ => cnd_neK (fun q => absurd rfl q) fun _ => ?_
  refine ⟨fun i => ∃ j : Nat, i = j ∧ j ≤ es.length, fun i => ((es.length : Int) - i).toNat, ⟨0, rfl, Nat.zero_le _⟩, ?_⟩
  rintro _ ⟨j, rfl, hj⟩
  refine cnd_dec (fun hlt => ?_) fun hlt => h
  refine ⟨by omega, by omega, fun x hx => ⟨by omega, by omega, fun y hy => ?_⟩⟩
  obtain rfl : x = y := Option.some.inj (hx.symm.trans hy)
  rw [beq_self_eq_true, beq_self_eq_true, wr (by omega) (by omega)]
  exact cnd_not (fun q => by cases q) fun _ => ⟨⟨j + 1, by simp, by omega⟩, by dsimp only; omega⟩
theorem okKept {g : Int} {es : List (Int × Int)} {R : Bool → Prop} (hl : es.length ≤ 1000000) (z : R true) : Ok73 g es g es R := by
  intro h tA tL tC gA gL gC H
  have Y : Sy h [] h _ := Sy.startM H rfl
  obtain rfl := Y.lenN 0 rfl
  obtain rfl := Y.lenV 1 rfl
  apply calls73
  unfold S73
  intro hv
  have Y : Sy _ _ hv [_, _, _] := Y.junk _
  clear_value hv
  intro hv2
  have Y : Sy _ _ hv2 [_, _, _, _] := Y.junk _
  clear_value hv2
  have Y0 := Y
  have F : Fr [] hv2 hv2 := Fr.refl _ _
  refine callX_sy (okSameK (R := fun r => r = true) hl rfl _ _ _ _ _ _ _ ((Y.turn 0 rfl To.vwmvw).pick [0, 1] rfl).hp) (fun _ _ ⟨_, p, _⟩ => p.fr) (allc (fun h => by cases h) (allc (fun h => by cases h) alln)) ?_
  rintro v hv3 ⟨r, PP, rfl, rfl⟩
  have F : Fr _ _ hv3 := F.trans PP.fr.nil
  have Y : Sy _ _ hv3 [_, _, _, _] := Y.gr PP.fr
  clear PP
  refine ⟨true, rfl, F, fun _ => ?_, fun w => by cases w⟩
  obtain ⟨rd, _, hc, hn⟩ := Y0.ok (k := 0) rfl
  simp only [List.length_cons, List.length_nil] at hc rd
  rw [slice0, wr (by omega) (by omega)]
  refine ⟨by omega, by omega, ?_⟩
  obtain ⟨b, o, hb, x, hx, hC⟩ := readsAt rd (i := ((es.length : Nat) : Int)) (by omega) (by omega)
  rw [Int.toNat_natCast, List.getElem?_append_right (Nat.le_refl _), Nat.sub_self, List.getElem?_cons_zero] at hx
  obtain rfl := Option.some.inj hx
  exact ⟨b, o, hb, by omega, by omega, _, hC 0 _ rfl, _, hC 1 _ rfl, _, Y.pick [] rfl, rfl, z⟩
end Go.Proofs.Ytmcloipjlihhlaa.N
