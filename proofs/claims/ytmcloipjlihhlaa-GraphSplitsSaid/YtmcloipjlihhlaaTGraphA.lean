/- Functions: what is left to be shown of each, over memory and without: printed by program, tied to the loaded functions by the kernel. Conditions: none. -/
import Derived.Test.YtmcloipjlihhlaaSEnv
import Derived.Test.YtmcloipjlihhlaaYMore
import Derived.Test.YtmcloipjlihhlaaTGraph
namespace Go.Proofs.Ytmcloipjlihhlaa.N
open Go.Proofs.Ytmcloipjlihhlaa
open Go.X
set_option maxRecDepth 100000
set_option linter.unusedVariables false
set_option linter.unusedSimpArgs false
set_option maxHeartbeats 2000000

/-- tracery/tracerylaw4.GraphSplits -/
def S14 (fromv : Int) (fromA : Option Addr) (fromL fromC : Nat) (ev : Int) (h : Heap) (R : Value → Heap → Prop) : Prop :=
  let hv : Heap := h.push (.cells #[.int .i64 fromv, .slice fromA fromL fromC] 26)
  callX Try.prog 74 #[] hv [h.size] fun v hv2 =>
  ∃ r : Bool, v = .bool r ∧
  cnd (!r)
    (R (.bool false) hv2)
    (callX Try.prog 75 #[.agg #[.int .i64 fromv, .slice fromA fromL fromC]] hv2 [h.size] fun v2 hv3 =>
    ∃ raP : Option Addr, ∃ rb : Int, v2 = .tuple #[.pointer raP, .int .i64 rb] ∧
    let K := fun (hv4 : Heap) =>
      (cnd (rb == (0 : Int))
        (R (.bool true) hv4)
        (R (.bool (Option.isNone raP)) hv4))
    cnd (rb != (0 : Int))
      (K hv3)
      (cnd (((fromL : Nat) : Int) == (0 : Int))
        (K hv3)
        (cnd (decide (fromv > (300 : Int)))
          (K hv3)
          (cnd (decide (((fromL : Nat) : Int) > (300 : Int)))
            (K hv3)
            (cnd (decide (ev < (0 : Int)))
              (cnd (rb == (0 : Int))
                (R (.bool true) hv3)
                (R (.bool (Option.isNone raP)) hv3))
              (((fromL : Nat) : Int) ≠ 0 ∧ callX Try.prog 76 #[.pointer raP, .int .i64 (IntKind.i64.wrap ((Int.tmod ev ((fromL : Nat) : Int)) + (1 : Int)))] hv3 [h.size] fun v3 hv5 =>
              ∃ ra : Int, ∃ rb2 : Int, ∃ rc : Int, v3 = .tuple #[.int .i64 ra, .int .i64 rb2, .int .i64 rc] ∧
              callX Try.prog 77 #[.pointer raP, .int .i64 (IntKind.i64.wrap ((Int.tmod ev ((fromL : Nat) : Int)) + (1 : Int)))] hv5 [h.size] fun v4 hv6 =>
              ∃ ra2 : Int, ∃ rb3 : Int, ∃ rc2 : Int, v4 = .tuple #[.int .i64 ra2, .int .i64 rb3, .int .i64 rc2] ∧
              cnd (rc2 != (0 : Int))
                (R (.bool false) hv6)
                (callX Try.prog 76 #[.pointer raP, .int .i64 (IntKind.i64.wrap ((Int.tmod ev ((fromL : Nat) : Int)) + (1 : Int)))] hv6 [h.size] fun v5 hv7 =>
                ∃ ra3 : Int, ∃ rb4 : Int, ∃ rc3 : Int, v5 = .tuple #[.int .i64 ra3, .int .i64 rb4, .int .i64 rc3] ∧
                callX Try.prog 76 #[.pointer raP, .int .i64 rb3] hv7 [h.size] fun v6 hv8 =>
                ∃ ra4 : Int, ∃ rb5 : Int, ∃ rc4 : Int, v6 = .tuple #[.int .i64 ra4, .int .i64 rb5, .int .i64 rc4] ∧
                let K2 := fun (hv9 : Heap) =>
                  (R (.bool false) hv9)
                cnd (ra3 != ra)
                  (K2 hv8)
                  (cnd (rb4 != ra2)
                    (K2 hv8)
                    (cnd (ra4 != ra2)
                      (K2 hv8)
                      (cnd (rb5 != rb2)
                        (R (.bool false) hv8)
                        (callX Try.prog 78 #[.pointer raP, .int .i64 ra2] hv8 [h.size] fun v7 hv10 =>
                        ∃ ra5 : Int, ∃ rb6 : Int, v7 = .tuple #[.int .i64 ra5, .int .i64 rb6] ∧
                        callX Try.prog 79 #[.pointer raP] hv10 [h.size] fun v8 hv11 =>
                        ∃ ra6 : Int, ∃ (raA : Option Addr) (raL raC : Nat), ∃ (rbA : Option Addr) (rbL rbC : Nat), ∃ (rcA : Option Addr) (rcL rcC : Nat), v8 = .tuple #[.agg #[.int .i64 ra6, .slice raA raL raC], .slice rbA rbL rbC, .slice rcA rcL rcC] ∧
                        let hv12 : Heap := hv11.push (.cells #[.int .i64 0, .slice none 0 0] 26)
                        let hv13 : Heap := hset (hset hv12 hv11.size 0 (.int .i64 ra6)) hv11.size (0 + 1) (.slice raA raL raC)
                        cnd (rb6 == (0 : Int))
                          (cnd (ra5 == (IntKind.i64.wrap ((Int.tmod ev ((fromL : Nat) : Int)) + (1 : Int))))
                            (callX Try.prog 40 #[.agg #[.int .i64 ra6, .slice raA raL raC], .agg #[.int .i64 fromv, .slice fromA fromL fromC]] hv13 [hv11.size, h.size] fun v9 hv14 =>
                            ∃ r2 : Bool, v9 = .bool r2 ∧
                            R (.bool r2) hv14)
                            (R (.bool false) hv13))
                          (R (.bool false) hv13))))))))))))
theorem calls14 {h : Heap} {R : Value → Heap → Prop} (fromv : Int) (fromA : Option Addr) (fromL fromC : Nat) (ev : Int) (H : S14 fromv fromA fromL fromC ev h R) : CallsH Try.prog 14 #[.agg #[.int .i64 fromv, .slice fromA fromL fromC], .int .i64 ev] h R := by
  have e : S14 fromv fromA fromL fromC ev h R = FX (envX [2, 20] 137) { loops := [], joins := [], blocks := [], draws := [] } Try.f14 (Try.f14.body.getD .skip) [.agg #[.int .i64 fromv, .slice fromA fromL fromC], .int .i64 ev] h R := by kernel_rfl
  exact calls_of_FX (envX_ok _ _) Try.func14 (by kernel_rfl) (by kernel_rfl) (by kernel_rfl) (e ▸ H)
/-- tracery/tracerylaw4.GraphSplits -/
def Ok14 (fromv : Int) (edgesV : List (Int × Int)) (ev : Int) (R : Bool → Prop) : Prop :=
  ∀ (h : Heap) (fromA : Option Addr) (fromL fromC : Nat), Hp h [Ck.vw eP fromA fromL fromC edgesV] → CallsH Try.prog 14 #[.agg #[.int .i64 fromv, .slice fromA fromL fromC], .int .i64 ev] h fun v h' => ∃ (rV : Bool), Sy h [] h' [] ∧ v = .bool rV ∧ R rV
theorem Ok14.mono {fromv edgesV ev} {R R' : Bool → Prop} (H : Ok14 fromv edgesV ev R) (kz : ∀ rV, R rV → R' rV) : Ok14 fromv edgesV ev R' :=
  fun h fromA fromL fromC hp => (H h fromA fromL fromC hp).mono fun _ _ ⟨rV, P, e, q⟩ => ⟨rV, P, e, kz _ q⟩
def T14 (fromv : Int) (edgesV : List (Int × Int)) (ev : Int) (R : Bool → Prop) : Prop :=
  Ok74 (fun r =>
  cnd (!r)
    (R false)
    (Ok75 fromv edgesV (fun raGN raG rb =>
    cnd raGN
      (∃ Jv : Prop,
      ( cnd (rb != (0 : Int))
         (Jv)
         (cnd (((edgesV.length : Nat) : Int) == (0 : Int))
           (Jv)
           (cnd (decide (fromv > (300 : Int)))
             (Jv)
             (cnd (decide (((edgesV.length : Nat) : Int) > (300 : Int)))
               (Jv)
               (cnd (decide (ev < (0 : Int)))
                 (cnd (rb == (0 : Int))
                   (R true)
                   (R (true)))
                 (((edgesV.length : Nat) : Int) ≠ 0 ∧ False)))))) ∧
      (Jv →
      cnd (rb == (0 : Int))
        (R true)
        (R (true))))
      (∃ Jv_2 : Prop,
      ( cnd (rb != (0 : Int))
         (Jv_2)
         (cnd (((edgesV.length : Nat) : Int) == (0 : Int))
           (Jv_2)
           (cnd (decide (fromv > (300 : Int)))
             (Jv_2)
             (cnd (decide (((edgesV.length : Nat) : Int) > (300 : Int)))
               (Jv_2)
               (cnd (decide (ev < (0 : Int)))
                 (cnd (rb == (0 : Int))
                   (R true)
                   (R (false)))
                 (((edgesV.length : Nat) : Int) ≠ 0 ∧ Ok76 raG (IntKind.i64.wrap ((Int.tmod ev ((edgesV.length : Nat) : Int)) + (1 : Int))) (fun gG1 ra rb2 rc =>
                 Ok77 gG1 (IntKind.i64.wrap ((Int.tmod ev ((edgesV.length : Nat) : Int)) + (1 : Int))) (fun gG1_2 ra2 rb3 rc2 =>
                 cnd (rc2 != (0 : Int))
                   (R false)
                   (Ok76 gG1_2 (IntKind.i64.wrap ((Int.tmod ev ((edgesV.length : Nat) : Int)) + (1 : Int))) (fun gG1_3 ra3 rb4 rc3 =>
                   Ok76 gG1_3 rb3 (fun gG1_4 ra4 rb5 rc4 =>
                   ∃ Jv_3 : Prop,
                   ( cnd (ra3 != ra)
                      (Jv_3)
                      (cnd (rb4 != ra2)
                        (Jv_3)
                        (cnd (ra4 != ra2)
                          (Jv_3)
                          (cnd (rb5 != rb2)
                            (R false)
                            (Ok78 gG1_4 ra2 (fun gG1_5 ra5 rb6 =>
                            Ok79 gG1_5 (fun gG1_6 ra6 ra_2 rb_2 rc_2 =>
                            cnd (rb6 == (0 : Int))
                              (cnd (ra5 == (IntKind.i64.wrap ((Int.tmod ev ((edgesV.length : Nat) : Int)) + (1 : Int))))
                                (Ok40 ra6 ra_2 fromv edgesV (fun r2 =>
                                R r2))
                                (R false))
                              (R false)))))))) ∧
                   (Jv_3 →
                   R false)))))))))))) ∧
      (Jv_2 →
      cnd (rb == (0 : Int))
        (R true)
        (R (false)))))))
theorem ok14 {fromv edgesV ev} {R : Bool → Prop} (T : T14 fromv edgesV ev R) : Ok14 fromv edgesV ev R := by
  intro h fromA fromL fromC H
  have Y : Sy h [] h _ := Sy.startM H rfl
  obtain rfl := Y.lenV 0 rfl
  apply calls14
  unfold S14
  unfold T14 at T
  intro hv
  have Y : Sy _ _ hv [_, _] := Y.junk _
  clear_value hv
  refine callX_sy (T _ (Hp.nil _)) (fun _ _ ⟨_, p, _⟩ => p.fr) (allc (fun h => by cases h) alln) ?_
  rintro v hv2 ⟨r, PP, rfl, T⟩
  have Y : Sy _ _ hv2 [_, _] := Y.gr PP.fr
  clear PP
  refine ⟨r, rfl, ?_⟩
  refine cnd_imp T (fun T => ?_) (fun T => ?_)
  · exact ⟨_, Y.pick [] rfl, rfl, T⟩
  · refine callX_sy (T _ _ _ _ (Y.pick [0] rfl).hp) (fun _ _ ⟨_, _, _, _, _, p, _⟩ => p.fr) (allc (fun h => by cases h) alln) ?_
    rintro v2 hv3 ⟨raB_2, raS, raGN, raG, rb, PP, rfl, T⟩
    cases raGN
    · replace T := T.2 rfl
      have Y : Sy _ _ hv3 [_, _, _] := Y.callV PP ⟨rfl, trivial⟩
      clear PP
      refine ⟨_, rb, rfl, ?_⟩
      obtain ⟨Jv_2, T0, T1⟩ := T
      obtain ⟨B_2, hB_2, _⟩ := Y.cut [] [0, 1, 2] rfl
      intro K
      have hK : ∀  (hv4 : Heap), (Sy h [] hv4 ([] ++ B_2) ∧ Jv_2) → K hv4 := by
        subst hB_2
        clear T0 Y
        rintro hv4 ⟨Y, T⟩
        replace T := T1 T
        have Y : Sy _ _ _ [_, _, _] := Y
        unfold K
        refine cnd_imp T (fun T => ?_) (fun T => ?_)
        · exact ⟨_, Y.pick [] rfl, rfl, T⟩
        · exact ⟨_, Y.pick [] rfl, rfl, T⟩
      subst hB_2
      replace T := T0
      clear T0 T1
      refine cnd_imp T (fun T => ?_) (fun T => ?_)
      · exact hK _ ⟨Y.pick [0, 1, 2] rfl, T⟩
      · refine cnd_imp T (fun T => ?_) (fun T => ?_)
        · exact hK _ ⟨Y.pick [0, 1, 2] rfl, T⟩
        · refine cnd_imp T (fun T => ?_) (fun T => ?_)
          · exact hK _ ⟨Y.pick [0, 1, 2] rfl, T⟩
          · refine cnd_imp T (fun T => ?_) (fun T => ?_)
            · exact hK _ ⟨Y.pick [0, 1, 2] rfl, T⟩
            · refine cnd_imp T (fun T => ?_) (fun T => ?_)
              · refine cnd_imp T (fun T => ?_) (fun T => ?_)
                · exact ⟨_, Y.pick [] rfl, rfl, T⟩
                · exact ⟨_, Y.pick [] rfl, rfl, T⟩
              · obtain ⟨q_2, T⟩ := T
                refine ⟨q_2, ?_⟩
                refine callX_sy (T _ _ _ (Y.pick [2] rfl).hp) (fun _ _ ⟨_, _, _, _, _, p, _⟩ => p.fr) (allc (Y.nO 1 [2] rfl rfl) alln) ?_
                rintro v3 hv5 ⟨gS2, gG1, ra, rb2, rc, PP, rfl, T⟩
                have Y : Sy _ _ hv5 [_, _, _] := Y.call2 [2, 0, 1] rfl (A := [_]) rfl rfl PP ⟨rfl, trivial⟩
                clear PP
                refine ⟨ra, rb2, rc, rfl, ?_⟩
                refine callX_sy (T _ _ _ (Y.pick [0] rfl).hp) (fun _ _ ⟨_, _, _, _, _, p, _⟩ => p.fr) (allc (Y.nO 2 [0] rfl rfl) alln) ?_
                rintro v4 hv6 ⟨gS2_2, gG1_2, ra2, rb3, rc2, PP, rfl, T⟩
                have Y : Sy _ _ hv6 [_, _, _] := Y.call2 [0, 1, 2] rfl (A := [_]) rfl rfl PP ⟨rfl, trivial⟩
                clear PP
                refine ⟨ra2, rb3, rc2, rfl, ?_⟩
                refine cnd_imp T (fun T => ?_) (fun T => ?_)
                · exact ⟨_, Y.pick [] rfl, rfl, T⟩
                · refine callX_sy (T _ _ _ (Y.pick [0] rfl).hp) (fun _ _ ⟨_, _, _, _, _, p, _⟩ => p.fr) (allc (Y.nO 2 [0] rfl rfl) alln) ?_
                  rintro v5 hv7 ⟨gS2_3, gG1_3, ra3, rb4, rc3, PP, rfl, T⟩
                  have Y : Sy _ _ hv7 [_, _, _] := Y.call2 [0, 1, 2] rfl (A := [_]) rfl rfl PP ⟨rfl, trivial⟩
                  clear PP
                  refine ⟨ra3, rb4, rc3, rfl, ?_⟩
                  refine callX_sy (T _ _ _ (Y.pick [0] rfl).hp) (fun _ _ ⟨_, _, _, _, _, p, _⟩ => p.fr) (allc (Y.nO 2 [0] rfl rfl) alln) ?_
                  rintro v6 hv8 ⟨gS2_4, gG1_4, ra4, rb5, rc4, PP, rfl, T⟩
                  have Y : Sy _ _ hv8 [_, _, _] := Y.call2 [0, 1, 2] rfl (A := [_]) rfl rfl PP ⟨rfl, trivial⟩
                  clear PP
                  refine ⟨ra4, rb5, rc4, rfl, ?_⟩
                  obtain ⟨Jv_3, T0, T1⟩ := T
                  obtain ⟨B_3, hB_3, _⟩ := Y.cut [] [0, 1, 2] rfl
                  intro K2
                  have hK2 : ∀  (hv9 : Heap), (Sy h [] hv9 ([] ++ B_3) ∧ Jv_3) → K2 hv9 := by
                    subst hB_3
                    clear T0 Y
                    rintro hv9 ⟨Y, T⟩
                    replace T := T1 T
                    have Y : Sy _ _ _ [_, _, _] := Y
                    unfold K2
                    exact ⟨_, Y.pick [] rfl, rfl, T⟩
                  subst hB_3
                  replace T := T0
                  clear T0 T1
                  refine cnd_imp T (fun T => ?_) (fun T => ?_)
                  · exact hK2 _ ⟨Y.pick [0, 1, 2] rfl, T⟩
                  · refine cnd_imp T (fun T => ?_) (fun T => ?_)
                    · exact hK2 _ ⟨Y.pick [0, 1, 2] rfl, T⟩
                    · refine cnd_imp T (fun T => ?_) (fun T => ?_)
                      · exact hK2 _ ⟨Y.pick [0, 1, 2] rfl, T⟩
                      · refine cnd_imp T (fun T => ?_) (fun T => ?_)
                        · exact ⟨_, Y.pick [] rfl, rfl, T⟩
                        · refine callX_sy (T _ _ _ (Y.pick [0] rfl).hp) (fun _ _ ⟨_, _, _, _, p, _⟩ => p.fr) (allc (Y.nO 2 [0] rfl rfl) alln) ?_
                          rintro v7 hv10 ⟨gS2_5, gG1_5, ra5, rb6, PP, rfl, T⟩
                          have Y : Sy _ _ hv10 [_, _, _] := Y.call2 [0, 1, 2] rfl (A := [_]) rfl rfl PP ⟨rfl, trivial⟩
                          clear PP
                          refine ⟨ra5, rb6, rfl, ?_⟩
                          refine callX_sy (T _ _ _ (Y.pick [0] rfl).hp) (fun _ _ ⟨_, _, _, _, _, _, _, _, _, _, _, _, _, _, _, p, _⟩ => p.fr) (allc (Y.nO 2 [0] rfl rfl) alln) ?_
                          rintro v8 hv11 ⟨gS2_6, gG1_6, ra6, raA, raL, raC, ra_2, rbA, rbL, rbC, rb_2, rcA, rcL, rcC, rc_2, PP, rfl, T⟩
                          have Y : Sy _ _ hv11 [_, _, _, _, _, _] := Y.call2 [0, 1, 2] rfl (A := [_]) rfl rfl PP ⟨rfl, ⟨rfl, ⟨rfl, ⟨rfl, trivial⟩⟩⟩⟩
                          clear PP
                          obtain rfl := Y.lenS 1 rfl
                          obtain rfl := Y.lenS 2 rfl
                          obtain rfl := Y.lenS 3 rfl
                          refine ⟨ra6, _, _, _, _, _, _, _, _, _, rfl, ?_⟩
                          intro hv12
                          have Y : Sy _ _ hv12 [_, _, _, _, _, _, _] := Y.junk _
                          clear_value hv12
                          intro hv13
                          have Y : Sy _ _ hv13 [_, _, _, _, _, _, _] := ((Y.stJ 6 rfl _ _).stJ 6 rfl _ _)
                          clear_value hv13
                          refine cnd_imp T (fun T => ?_) (fun T => ?_)
                          · refine cnd_imp T (fun T => ?_) (fun T => ?_)
                            · refine callX_sy (T _ _ _ _ _ _ _ ((Y.turn 1 rfl To.slvw).pick [1, 4] rfl).hp) (fun _ _ ⟨_, p, _⟩ => p.fr) (allc (fun h => by cases h) (allc (fun h => by cases h) alln)) ?_
                              rintro v9 hv14 ⟨r2, PP, rfl, T⟩
                              have Y : Sy _ _ hv14 [_, _, _, _, _, _, _] := Y.gr PP.fr
                              clear PP
                              refine ⟨r2, rfl, ?_⟩
                              exact ⟨_, Y.pick [] rfl, rfl, T⟩
                            · exact ⟨_, Y.pick [] rfl, rfl, T⟩
                          · exact ⟨_, Y.pick [] rfl, rfl, T⟩
    · replace T := T.1 rfl
      have Y : Sy _ _ hv3 [_, _] := Y.gr PP.fr
      clear PP
      refine ⟨_, rb, rfl, ?_⟩
      obtain ⟨Jv, T0, T1⟩ := T
      obtain ⟨B, hB, _⟩ := Y.cut [] [0, 1] rfl
      intro K
      have hK : ∀  (hv4 : Heap), (Sy h [] hv4 ([] ++ B) ∧ Jv) → K hv4 := by
        subst hB
        clear T0 Y
        rintro hv4 ⟨Y, T⟩
        replace T := T1 T
        have Y : Sy _ _ _ [_, _] := Y
        unfold K
        refine cnd_imp T (fun T => ?_) (fun T => ?_)
        · exact ⟨_, Y.pick [] rfl, rfl, T⟩
        · exact ⟨_, Y.pick [] rfl, rfl, T⟩
      subst hB
      replace T := T0
      clear T0 T1
      refine cnd_imp T (fun T => ?_) (fun T => ?_)
      · exact hK _ ⟨Y.pick [0, 1] rfl, T⟩
      · refine cnd_imp T (fun T => ?_) (fun T => ?_)
        · exact hK _ ⟨Y.pick [0, 1] rfl, T⟩
        · refine cnd_imp T (fun T => ?_) (fun T => ?_)
          · exact hK _ ⟨Y.pick [0, 1] rfl, T⟩
          · refine cnd_imp T (fun T => ?_) (fun T => ?_)
            · exact hK _ ⟨Y.pick [0, 1] rfl, T⟩
            · refine cnd_imp T (fun T => ?_) (fun T => ?_)
              · refine cnd_imp T (fun T => ?_) (fun T => ?_)
                · exact ⟨_, Y.pick [] rfl, rfl, T⟩
                · exact ⟨_, Y.pick [] rfl, rfl, T⟩
              · obtain ⟨q, T⟩ := T
                refine ⟨q, ?_⟩
                exact T.elim
end Go.Proofs.Ytmcloipjlihhlaa.N
