/- Functions: what is left to be shown of each, over memory and without: printed by program, tied to the loaded functions by the kernel. Conditions: none. -/
import Derived.Test.YtmcloipjlihhlaaSEnv
import Derived.Test.YtmcloipjlihhlaaYMore
import Derived.Test.YtmcloipjlihhlaaTGraph
namespace Go.Proofs.Ytmcloipjlihhlaa.N
open Go.Proofs.Ytmcloipjlihhlaa
open Go.X
set_option maxRecDepth 100000
set_option linter.unusedVariables false
set_option linter.unusedSimpArgs false
set_option maxHeartbeats 2000000

/-- tracery/tracerylaw4.GraphIds -/
def S23 (fromv : Int) (fromA : Option Addr) (fromL fromC : Nat) (opsA : Option Addr) (opsL opsC : Nat) (h : Heap) (R : Value → Heap → Prop) : Prop :=
  let hv : Heap := h.push (.cells #[.int .i64 fromv, .slice fromA fromL fromC] 26)
  callX Try.prog 74 #[] hv [h.size] fun v hv2 =>
  ∃ r : Bool, v = .bool r ∧
  cnd (!r)
    (R (.bool false) hv2)
    (callX Try.prog 75 #[.agg #[.int .i64 fromv, .slice fromA fromL fromC]] hv2 [h.size] fun v2 hv3 =>
    ∃ raP : Option Addr, ∃ rb : Int, v2 = .tuple #[.pointer raP, .int .i64 rb] ∧
    let K := fun (hv4 : Heap) =>
      (cnd (rb == (0 : Int))
        (R (.bool true) hv4)
        (R (.bool (Option.isNone raP)) hv4))
    cnd (rb != (0 : Int))
      (K hv3)
      (cnd (decide (fromv > (200 : Int)))
        (K hv3)
        (cnd (decide (((fromL : Nat) : Int) > (200 : Int)))
          (cnd (rb == (0 : Int))
            (R (.bool true) hv3)
            (R (.bool (Option.isNone raP)) hv3))
          (let K2 := fun (v15 : Int) (f7 : Int) (hv23 : Heap) =>
            (callX Try.prog 106 #[.pointer raP, .int .i64 v15, .int .i64 f7] hv23 [] fun v16 hv24 =>
            ∃ r3 : Bool, v16 = .bool r3 ∧
            R (.bool r3) hv24)
          ∃ (Iv : List Value → Heap → Prop) (m : List Value → Heap → Nat), Iv [.int .i64 fromv, .int .i64 ((fromL : Nat) : Int), .int .i64 0] hv3 ∧ -- loop 0: ['v', 'f', 'i']
          ∀ v3 : Int, ∀ f : Int, ∀ i : Int, ∀ hv5, Iv [.int .i64 v3, .int .i64 f, .int .i64 i] hv5 →
          cnd (decide (i < ((opsL : Nat) : Int)))
            (cnd (decide (i < (100 : Int)))
              (∃ b o, opsA = some ⟨b, o, none⟩ ∧ 0 ≤ i ∧ i < (opsL : Nat) ∧ ∃ x : Int, hcell hv5 b (o + (Int.toNat i) * 4) = some (.int .i64 x) ∧ ∃ x2 : Int, hcell hv5 b ((o + (Int.toNat i) * 4) + 1) = some (.int .i64 x2) ∧ ∃ x3 : Int, hcell hv5 b (((o + (Int.toNat i) * 4) + 1) + 1) = some (.int .i64 x3) ∧ ∃ x4 : Int, hcell hv5 b ((((o + (Int.toNat i) * 4) + 1) + 1) + 1) = some (.int .i64 x4) ∧ let hv6 : Heap := hv5.push (.cells #[.int .i64 0, .int .i64 0, .int .i64 0, .int .i64 0] 130)
              let hv7 : Heap := hset (hset (hset (hset hv6 hv5.size 0 (.int .i64 x)) hv5.size (0 + 1) (.int .i64 x2)) hv5.size ((0 + 1) + 1) (.int .i64 x3)) hv5.size (((0 + 1) + 1) + 1) (.int .i64 x4)
              ∃ Jv : List Value → Heap → Prop, -- join 65 ['v', 'f']
              ( cnd (x == (1 : Int))
                 (callX Try.prog 97 #[.pointer raP] hv7 [hv5.size] fun v4 hv8 =>
                 ∃ ra : Int, ∃ rb2 : Int, v4 = .tuple #[.int .i64 ra, .int .i64 rb2] ∧
                 ∃ Jv2 : List Value → Heap → Prop, -- join 73 ['v']
                 ( cnd (rb2 == (0 : Int))
                    (cnd (ra != (IntKind.i64.wrap (v3 + (1 : Int))))
                      (R (.bool false) hv8)
                      (Jv2 [.int .i64 (IntKind.i64.wrap (v3 + (1 : Int)))] hv8))
                    (Jv2 [.int .i64 v3] hv8)) ∧
                 ∀ v5 : Int, ∀ hv9, Jv2 [.int .i64 v5] hv9 →
                 Jv [.int .i64 v5, .int .i64 f] hv9)
                 (∃ Jv3 : List Value → Heap → Prop, -- join 79 ['v', 'f']
                 ( cnd (x == (2 : Int))
                    (callX Try.prog 98 #[.pointer raP, .int .i64 x2, .int .i64 x3] hv7 [hv5.size] fun v6 hv10 =>
                    ∃ ra2 : Int, ∃ rb3 : Int, v6 = .tuple #[.int .i64 ra2, .int .i64 rb3] ∧
                    ∃ Jv4 : List Value → Heap → Prop, -- join 91 ['f']
                    ( cnd (rb3 == (0 : Int))
                       (cnd (ra2 != (IntKind.i64.wrap (f + (1 : Int))))
                         (R (.bool false) hv10)
                         (Jv4 [.int .i64 (IntKind.i64.wrap (f + (1 : Int)))] hv10))
                       (Jv4 [.int .i64 f] hv10)) ∧
                    ∀ f2 : Int, ∀ hv11, Jv4 [.int .i64 f2] hv11 →
                    Jv3 [.int .i64 v3, .int .i64 f2] hv11)
                    (∃ Jv5 : List Value → Heap → Prop, -- join 97 ['v', 'f']
                    ( cnd (x == (5 : Int))
                       (callX Try.prog 77 #[.pointer raP, .int .i64 x2] hv7 [hv5.size] fun v7 hv12 =>
                       ∃ ra3 : Int, ∃ rb4 : Int, ∃ rc : Int, v7 = .tuple #[.int .i64 ra3, .int .i64 rb4, .int .i64 rc] ∧
                       ∃ Jv6 : List Value → Heap → Prop, -- join 108 ['v', 'f']
                       ( cnd (rc == (0 : Int))
                          (cnd (ra3 != (IntKind.i64.wrap (v3 + (1 : Int))))
                            (R (.bool false) hv12)
                            (cnd (rb4 != (IntKind.i64.wrap (f + (1 : Int))))
                              (R (.bool false) hv12)
                              (Jv6 [.int .i64 (IntKind.i64.wrap (v3 + (1 : Int))), .int .i64 (IntKind.i64.wrap (f + (1 : Int)))] hv12)))
                          (Jv6 [.int .i64 v3, .int .i64 f] hv12)) ∧
                       ∀ v8 : Int, ∀ f3 : Int, ∀ hv13, Jv6 [.int .i64 v8, .int .i64 f3] hv13 →
                       Jv5 [.int .i64 v8, .int .i64 f3] hv13)
                       (∃ Jv7 : List Value → Heap → Prop, -- join 121 []
                       ( cnd (x == (3 : Int))
                          (callX Try.prog 99 #[.pointer raP, .int .i64 x2] hv7 [hv5.size] fun v9 hv14 =>
                          ∃ ra4 : Int, ∃ rb5 : Int, v9 = .tuple #[.int .i64 ra4, .int .i64 rb5] ∧
                          Jv7 [] hv14)
                          (∃ Jv8 : List Value → Heap → Prop, -- join 127 []
                          ( cnd (x == (4 : Int))
                             (callX Try.prog 102 #[.pointer raP, .int .i64 x2] hv7 [hv5.size] fun v10 hv15 =>
                             ∃ r2 : Int, v10 = .int .i64 r2 ∧
                             Jv8 [] hv15)
                             (∃ Jv9 : List Value → Heap → Prop, -- join 133 []
                             ( cnd (x == (6 : Int))
                                (callX Try.prog 78 #[.pointer raP, .int .i64 x2] hv7 [hv5.size] fun v11 hv16 =>
                                ∃ ra5 : Int, ∃ rb6 : Int, v11 = .tuple #[.int .i64 ra5, .int .i64 rb6] ∧
                                Jv9 [] hv16)
                                (Jv9 [] hv7)) ∧
                             ∀ hv17, Jv9 [] hv17 →
                             Jv8 [] hv17)) ∧
                          ∀ hv18, Jv8 [] hv18 →
                          Jv7 [] hv18)) ∧
                       ∀ hv19, Jv7 [] hv19 →
                       Jv5 [.int .i64 v3, .int .i64 f] hv19)) ∧
                    ∀ v12 : Int, ∀ f4 : Int, ∀ hv20, Jv5 [.int .i64 v12, .int .i64 f4] hv20 →
                    Jv3 [.int .i64 v12, .int .i64 f4] hv20)) ∧
                 ∀ v13 : Int, ∀ f5 : Int, ∀ hv21, Jv3 [.int .i64 v13, .int .i64 f5] hv21 →
                 Jv [.int .i64 v13, .int .i64 f5] hv21)) ∧
              ∀ v14 : Int, ∀ f6 : Int, ∀ hv22, Jv [.int .i64 v14, .int .i64 f6] hv22 →
              Iv [.int .i64 v14, .int .i64 f6, .int .i64 (IntKind.i64.wrap (i + (1 : Int)))] hv22 ∧ m [.int .i64 v14, .int .i64 f6, .int .i64 (IntKind.i64.wrap (i + (1 : Int)))] hv22 < m [.int .i64 v3, .int .i64 f, .int .i64 i] hv5)
              (K2 v3 f hv5))
            (K2 v3 f hv5)))))
theorem calls23 {h : Heap} {R : Value → Heap → Prop} (fromv : Int) (fromA : Option Addr) (fromL fromC : Nat) (opsA : Option Addr) (opsL opsC : Nat) (H : S23 fromv fromA fromL fromC opsA opsL opsC h R) : CallsH Try.prog 23 #[.agg #[.int .i64 fromv, .slice fromA fromL fromC], .slice opsA opsL opsC] h R := by
  have e : S23 fromv fromA fromL fromC opsA opsL opsC h R = FX (envX [2, 10] 143) { loops := [(0, ⟨[1, 5], [7, 8, 9], [], []⟩)], joins := [(65, ⟨[1, 5, 9], [7, 8], [], []⟩), (73, ⟨[1, 5, 8, 9], [7], [], []⟩), (79, ⟨[1, 5, 9], [7, 8], [], []⟩), (91, ⟨[1, 5, 7, 9], [8], [], []⟩), (97, ⟨[1, 5, 9], [7, 8], [], []⟩), (108, ⟨[1, 5, 9], [7, 8], [], []⟩), (121, ⟨[1, 5, 7, 8, 9], [], [], []⟩), (127, ⟨[1, 5, 7, 8, 9], [], [], []⟩), (133, ⟨[1, 5, 7, 8, 9], [], [], []⟩)], blocks := [], draws := [(6, ⟨7, false⟩)] } Try.f23 (Try.f23.body.getD .skip) [.agg #[.int .i64 fromv, .slice fromA fromL fromC], .slice opsA opsL opsC] h R := by kernel_rfl
  exact calls_of_FX (envX_ok _ _) Try.func23 (by kernel_rfl) (by kernel_rfl) (by kernel_rfl) (e ▸ H)
/-- tracery/tracerylaw4.GraphIds -/
def Ok23 (fromv : Int) (edgesV : List (Int × Int)) (opsV : List (Int × Int × Int × Int)) (R : Bool → Prop) : Prop :=
  ∀ (h : Heap) (fromA : Option Addr) (fromL fromC : Nat) (opsA : Option Addr) (opsL opsC : Nat), Hp h [Ck.vw eP fromA fromL fromC edgesV, Ck.vw e4 opsA opsL opsC opsV] → CallsH Try.prog 23 #[.agg #[.int .i64 fromv, .slice fromA fromL fromC], .slice opsA opsL opsC] h fun v h' => ∃ (rV : Bool), Sy h [] h' [] ∧ v = .bool rV ∧ R rV
theorem Ok23.mono {fromv edgesV opsV} {R R' : Bool → Prop} (H : Ok23 fromv edgesV opsV R) (kz : ∀ rV, R rV → R' rV) : Ok23 fromv edgesV opsV R' :=
  fun h fromA fromL fromC opsA opsL opsC hp => (H h fromA fromL fromC opsA opsL opsC hp).mono fun _ _ ⟨rV, P, e, q⟩ => ⟨rV, P, e, kz _ q⟩
def T23 (fromv : Int) (edgesV : List (Int × Int)) (opsV : List (Int × Int × Int × Int)) (R : Bool → Prop) : Prop :=
  Ok74 (fun r =>
  cnd (!r)
    (R false)
    (Ok75 fromv edgesV (fun raGN raG rb =>
    cnd raGN
      (∃ Jv_2 : Prop,
      ( cnd (rb != (0 : Int))
         (Jv_2)
         (cnd (decide (fromv > (200 : Int)))
           (Jv_2)
           (cnd (decide (((edgesV.length : Nat) : Int) > (200 : Int)))
             (cnd (rb == (0 : Int))
               (R true)
               (R (true)))
             (∃ Jv_3 : Int → Int → Prop,
             ( ∃ (Iv : Int → Int → Int → Prop) (m : Int → Int → Int → Nat), Iv fromv ((edgesV.length : Nat) : Int) 0 ∧
              ∀ v3 : Int, ∀ f : Int, ∀ i : Int, Iv v3 f i →
              cnd (decide (i < ((opsV.length : Nat) : Int)))
                (cnd (decide (i < (100 : Int)))
                  (0 ≤ i ∧ i < ((opsV.length : Nat) : Int) ∧ ∀ ops : (Int × Int × Int × Int), opsV[(Int.toNat i)]? = some ops → ∃ Jv : Int → Int → Prop,
                  ( cnd (ops.1 == (1 : Int))
                     (False)
                     (∃ Jv3 : Int → Int → Prop,
                     ( cnd (ops.1 == (2 : Int))
                        (False)
                        (∃ Jv5 : Int → Int → Prop,
                        ( cnd (ops.1 == (5 : Int))
                           (False)
                           (∃ Jv7 : Prop,
                           ( cnd (ops.1 == (3 : Int))
                              (False)
                              (∃ Jv8 : Prop,
                              ( cnd (ops.1 == (4 : Int))
                                 (False)
                                 (∃ Jv9 : Prop,
                                 ( cnd (ops.1 == (6 : Int))
                                    (False)
                                    (Jv9)) ∧
                                 (Jv9 →
                                 Jv8))) ∧
                              (Jv8 →
                              Jv7))) ∧
                           (Jv7 →
                           Jv5 v3 f))) ∧
                        ∀ v12 : Int, ∀ f4 : Int, Jv5 v12 f4 →
                        Jv3 v12 f4)) ∧
                     ∀ v13 : Int, ∀ f5 : Int, Jv3 v13 f5 →
                     Jv v13 f5)) ∧
                  ∀ v14 : Int, ∀ f6 : Int, Jv v14 f6 →
                  Iv v14 f6 (IntKind.i64.wrap (i + (1 : Int))) ∧ m v14 f6 (IntKind.i64.wrap (i + (1 : Int))) < m v3 f i)
                  (Jv_3 v3 f))
                (Jv_3 v3 f)) ∧
             ∀ v15 : Int, ∀ f7 : Int, Jv_3 v15 f7 →
             False)))) ∧
      (Jv_2 →
      cnd (rb == (0 : Int))
        (R true)
        (R (true))))
      (∃ Jv_4 : Prop,
      ( cnd (rb != (0 : Int))
         (Jv_4)
         (cnd (decide (fromv > (200 : Int)))
           (Jv_4)
           (cnd (decide (((edgesV.length : Nat) : Int) > (200 : Int)))
             (cnd (rb == (0 : Int))
               (R true)
               (R (false)))
             (∃ Jv_5 : Int → Int → Gr → Prop,
             ( ∃ (Iv : Int → Int → Int → Gr → Prop) (m : Int → Int → Int → Gr → Nat), Iv fromv ((edgesV.length : Nat) : Int) 0 raG ∧
              ∀ v3 : Int, ∀ f : Int, ∀ i : Int, ∀ raG_3 : Gr, Iv v3 f i raG_3 →
              cnd (decide (i < ((opsV.length : Nat) : Int)))
                (cnd (decide (i < (100 : Int)))
                  (0 ≤ i ∧ i < ((opsV.length : Nat) : Int) ∧ ∀ ops_2 : (Int × Int × Int × Int), opsV[(Int.toNat i)]? = some ops_2 → ∃ Jv : Int → Int → Gr → Prop,
                  ( cnd (ops_2.1 == (1 : Int))
                     (Ok97 raG_3 (fun gG1_2 ra rb2 =>
                     ∃ Jv2 : Int → Prop,
                     ( cnd (rb2 == (0 : Int))
                        (cnd (ra != (IntKind.i64.wrap (v3 + (1 : Int))))
                          (R false)
                          (Jv2 (IntKind.i64.wrap (v3 + (1 : Int)))))
                        (Jv2 v3)) ∧
                     ∀ v5 : Int, Jv2 v5 →
                     Jv v5 f gG1_2))
                     (∃ Jv3 : Int → Int → Gr → Prop,
                     ( cnd (ops_2.1 == (2 : Int))
                        (Ok98 raG_3 ops_2.2.1 ops_2.2.2.1 (fun gG1_3 ra2 rb3 =>
                        ∃ Jv4 : Int → Prop,
                        ( cnd (rb3 == (0 : Int))
                           (cnd (ra2 != (IntKind.i64.wrap (f + (1 : Int))))
                             (R false)
                             (Jv4 (IntKind.i64.wrap (f + (1 : Int)))))
                           (Jv4 f)) ∧
                        ∀ f2 : Int, Jv4 f2 →
                        Jv3 v3 f2 gG1_3))
                        (∃ Jv5 : Int → Int → Gr → Prop,
                        ( cnd (ops_2.1 == (5 : Int))
                           (Ok77 raG_3 ops_2.2.1 (fun gG1_4 ra3 rb4 rc =>
                           ∃ Jv6 : Int → Int → Prop,
                           ( cnd (rc == (0 : Int))
                              (cnd (ra3 != (IntKind.i64.wrap (v3 + (1 : Int))))
                                (R false)
                                (cnd (rb4 != (IntKind.i64.wrap (f + (1 : Int))))
                                  (R false)
                                  (Jv6 (IntKind.i64.wrap (v3 + (1 : Int))) (IntKind.i64.wrap (f + (1 : Int))))))
                              (Jv6 v3 f)) ∧
                           ∀ v8 : Int, ∀ f3 : Int, Jv6 v8 f3 →
                           Jv5 v8 f3 gG1_4))
                           (∃ Jv7 : Gr → Prop,
                           ( cnd (ops_2.1 == (3 : Int))
                              (Ok99 raG_3 ops_2.2.1 (fun gG1_5 ra4 rb5 =>
                              Jv7 gG1_5))
                              (∃ Jv8 : Gr → Prop,
                              ( cnd (ops_2.1 == (4 : Int))
                                 (Ok102 raG_3 ops_2.2.1 (fun gG1_6 r2 =>
                                 Jv8 gG1_6))
                                 (∃ Jv9 : Gr → Prop,
                                 ( cnd (ops_2.1 == (6 : Int))
                                    (Ok78 raG_3 ops_2.2.1 (fun gG1_7 ra5 rb6 =>
                                    Jv9 gG1_7))
                                    (Jv9 raG_3)) ∧
                                 ∀ raG_3_7 : Gr, Jv9 raG_3_7 →
                                 Jv8 raG_3_7)) ∧
                              ∀ raG_3_6 : Gr, Jv8 raG_3_6 →
                              Jv7 raG_3_6)) ∧
                           ∀ raG_3_5 : Gr, Jv7 raG_3_5 →
                           Jv5 v3 f raG_3_5)) ∧
                        ∀ v12 : Int, ∀ f4 : Int, ∀ raG_3_4 : Gr, Jv5 v12 f4 raG_3_4 →
                        Jv3 v12 f4 raG_3_4)) ∧
                     ∀ v13 : Int, ∀ f5 : Int, ∀ raG_3_3 : Gr, Jv3 v13 f5 raG_3_3 →
                     Jv v13 f5 raG_3_3)) ∧
                  ∀ v14 : Int, ∀ f6 : Int, ∀ raG_3_2 : Gr, Jv v14 f6 raG_3_2 →
                  Iv v14 f6 (IntKind.i64.wrap (i + (1 : Int))) raG_3_2 ∧ m v14 f6 (IntKind.i64.wrap (i + (1 : Int))) raG_3_2 < m v3 f i raG_3)
                  (Jv_5 v3 f raG_3))
                (Jv_5 v3 f raG_3)) ∧
             ∀ v15 : Int, ∀ f7 : Int, ∀ raG_2 : Gr, Jv_5 v15 f7 raG_2 →
             Ok106 raG_2 v15 f7 (fun gG1 r3 =>
             R r3))))) ∧
      (Jv_4 →
      cnd (rb == (0 : Int))
        (R true)
        (R (false)))))))
theorem ok23 {fromv edgesV opsV} {R : Bool → Prop} (T : T23 fromv edgesV opsV R) : Ok23 fromv edgesV opsV R := by
  intro h fromA fromL fromC opsA opsL opsC H
  have Y : Sy h [] h _ := Sy.startM H rfl
  obtain rfl := Y.lenV 0 rfl
  obtain rfl := Y.lenV 1 rfl
  apply calls23
  unfold S23
  unfold T23 at T
  intro hv
  have Y : Sy _ _ hv [_, _, _] := Y.junk _
  clear_value hv
  refine callX_sy (T _ (Hp.nil _)) (fun _ _ ⟨_, p, _⟩ => p.fr) (allc (fun h => by cases h) alln) ?_
  rintro v hv2 ⟨r, PP, rfl, T⟩
  have Y : Sy _ _ hv2 [_, _, _] := Y.gr PP.fr
  clear PP
  refine ⟨r, rfl, ?_⟩
  refine cnd_imp T (fun T => ?_) (fun T => ?_)
  · exact ⟨_, Y.pick [] rfl, rfl, T⟩
  · refine callX_sy (T _ _ _ _ (Y.pick [0] rfl).hp) (fun _ _ ⟨_, _, _, _, _, p, _⟩ => p.fr) (allc (fun h => by cases h) alln) ?_
    rintro v2 hv3 ⟨raB_2, raS, raGN, raG, rb, PP, rfl, T⟩
    cases raGN
    · replace T := T.2 rfl
      have Y : Sy _ _ hv3 [_, _, _, _] := Y.callV PP ⟨rfl, trivial⟩
      clear PP
      refine ⟨_, rb, rfl, ?_⟩
      obtain ⟨Jv_4, T0, T1⟩ := T
      obtain ⟨B_10, hB_10, _⟩ := Y.cut [] [0, 1, 2, 3] rfl
      intro K
      have hK : ∀  (hv4 : Heap), (Sy h [] hv4 ([] ++ B_10) ∧ Jv_4) → K hv4 := by
        subst hB_10
        clear T0 Y
        rintro hv4 ⟨Y, T⟩
        replace T := T1 T
        have Y : Sy _ _ _ [_, _, _, _] := Y
        unfold K
        refine cnd_imp T (fun T => ?_) (fun T => ?_)
        · exact ⟨_, Y.pick [] rfl, rfl, T⟩
        · exact ⟨_, Y.pick [] rfl, rfl, T⟩
      subst hB_10
      replace T := T0
      clear T0 T1
      refine cnd_imp T (fun T => ?_) (fun T => ?_)
      · exact hK _ ⟨Y.pick [0, 1, 2, 3] rfl, T⟩
      · refine cnd_imp T (fun T => ?_) (fun T => ?_)
        · exact hK _ ⟨Y.pick [0, 1, 2, 3] rfl, T⟩
        · refine cnd_imp T (fun T => ?_) (fun T => ?_)
          · refine cnd_imp T (fun T => ?_) (fun T => ?_)
            · exact ⟨_, Y.pick [] rfl, rfl, T⟩
            · exact ⟨_, Y.pick [] rfl, rfl, T⟩
          · have Y0 := Y
            have F : Fr [] hv3 hv3 := Fr.refl _ _
            obtain ⟨Jv_5, T0, T1⟩ := T
            obtain ⟨B_11, hB_11, _⟩ := Y.cut [] [0, 1, 2] rfl
            obtain ⟨F, hF⟩ := Y.fnG (k := 3) rfl
            intro K2
            have hK2 : ∀ (v15 : Int) (f7 : Int) (hv23 : Heap), (∃ (gS : List Nat) (raG_2 : Gr), Sy h [] hv23 ([F gS raG_2] ++ B_11) ∧ Jv_5 v15 f7 raG_2) → K2 v15 f7 hv23 := by
              subst hB_11 hF
              clear T0 Y
              rintro v15 f7 hv23 ⟨gS, raG_2, Y, T⟩
              replace T := T1 v15 f7 raG_2 T
              have Y : Sy _ _ _ [_, _, _, _] := Y
              unfold K2
              refine callX_sy (T _ _ _ (Y.pick [0] rfl).hp) (fun _ _ ⟨_, _, _, p, _⟩ => p.fr) alln ?_
              rintro v16 hv24 ⟨gS2, gG1, r3, PP, rfl, T⟩
              have Y : Sy _ _ hv24 [_, _, _, _] := Y.call2 [0, 1, 2, 3] rfl (A := [_]) rfl rfl PP ⟨rfl, trivial⟩
              clear PP
              refine ⟨r3, rfl, ?_⟩
              exact ⟨_, Y.pick [] rfl, rfl, T⟩
            subst hB_11 hF
            replace T := T0
            clear T0 T1
            obtain ⟨Iv, m, T0, T1⟩ := T
            obtain ⟨B_12, hB_12, YB⟩ := Y.cut [3] [0, 1, 2] rfl
            obtain ⟨F_2, hF_2⟩ := Y.fnG (k := 3) rfl
            obtain ⟨JJ_2, hJJ_2⟩ : ∃ JJ_2 : Nat → List Value → Heap → Prop, JJ_2 = (fun k_2 lz h' => ∃ (v3 : Int) (f : Int) (i : Int) (gS_2 : List Nat) (raG_3 : Gr), lz = [.int .i64 v3, .int .i64 f, .int .i64 i] ∧ Sy h [] h' ([F_2 gS_2 raG_3] ++ B_12) ∧ Iv v3 f i raG_3 ∧ m v3 f i raG_3 = k_2) := ⟨_, rfl⟩
            refine ⟨fun lz h' => ∃ k_2, JJ_2 k_2 lz h', Lm JJ_2, ?_, ?_⟩
            · subst hJJ_2 hB_12 hF_2
              exact ⟨_, _, _, _, _, _, rfl, YB, T0, rfl⟩
            · clear YB T0 Y
              intro v3 f i hv5 hI
              obtain ⟨k_2, hI, hm_2⟩ := loopIn hI
              subst hJJ_2 hB_12 hF_2
              obtain ⟨v3, f, i, gS_2, raG_3, e, Y, T, rfl⟩ := hI
              cases e
              replace T := T1 v3 f i raG_3 T
              have Y : Sy _ _ _ [_, _, _, _] := Y
              refine cnd_imp T (fun T => ?_) (fun T => ?_)
              · refine cnd_imp T (fun T => ?_) (fun T => ?_)
                · obtain ⟨q_3, q_4, T⟩ := T
                  obtain ⟨b_3, o_3, hb_2, hr_2, ops_2, hx_2⟩ := Y.atV 2 rfl q_3 q_4
                  refine ⟨b_3, o_3, hb_2, q_3, q_4, ?_⟩
                  replace T := T ops_2 hx_2
                  refine ⟨_, Y.cellV 2 rfl hb_2 (t := 0) hx_2 rfl, ?_⟩
                  refine ⟨_, Y.cellV 2 rfl hb_2 (t := 1) hx_2 rfl, ?_⟩
                  refine ⟨_, Y.cellV 2 rfl hb_2 (t := 2) hx_2 rfl, ?_⟩
                  refine ⟨_, Y.cellV 2 rfl hb_2 (t := 3) hx_2 rfl, ?_⟩
                  intro hv6
                  have Y : Sy _ _ hv6 [_, _, _, _, _] := Y.junk _
                  clear_value hv6
                  intro hv7
                  have Y : Sy _ _ hv7 [_, _, _, _, _] := ((((Y.stJ 4 rfl _ _).stJ 4 rfl _ _).stJ 4 rfl _ _).stJ 4 rfl _ _)
                  clear_value hv7
                  obtain ⟨Jv, T0, T1⟩ := T
                  obtain ⟨B_13, hB_13, _⟩ := Y.cut [] [1, 2, 3, 4] rfl
                  obtain ⟨F_3, hF_3⟩ := Y.fnG (k := 0) rfl
                  refine ⟨fun lz h' => ∃ (v14 : Int) (f6 : Int) (gS_3 : List Nat) (raG_3_2 : Gr), lz = [.int .i64 v14, .int .i64 f6] ∧ Sy h [] h' ([F_3 gS_3 raG_3_2] ++ B_13) ∧ Jv v14 f6 raG_3_2, ?_, ?_⟩
                  · subst hB_13 hF_3
                    replace T := T0
                    clear T0 T1
                    refine cnd_imp T (fun T => ?_) (fun T => ?_)
                    · refine callX_sy (T _ _ _ (Y.pick [0] rfl).hp) (fun _ _ ⟨_, _, _, _, p, _⟩ => p.fr) (allc (Y.nO 4 [0] rfl rfl) alln) ?_
                      rintro v4 hv8 ⟨gS2_2, gG1_2, ra, rb2, PP, rfl, T⟩
                      have Y : Sy _ _ hv8 [_, _, _, _, _] := Y.call2 [0, 1, 2, 3, 4] rfl (A := [_]) rfl rfl PP ⟨rfl, trivial⟩
                      clear PP
                      refine ⟨ra, rb2, rfl, ?_⟩
                      obtain ⟨Jv2, T0, T1⟩ := T
                      obtain ⟨B_14, hB_14, _⟩ := Y.cut [] [0, 1, 2, 3, 4] rfl
                      refine ⟨fun lz h' => ∃ (v5 : Int), lz = [.int .i64 v5] ∧ Sy h [] h' ([] ++ B_14) ∧ Jv2 v5, ?_, ?_⟩
                      · subst hB_14
                        replace T := T0
                        clear T0 T1
                        refine cnd_imp T (fun T => ?_) (fun T => ?_)
                        · refine cnd_imp T (fun T => ?_) (fun T => ?_)
                          · exact ⟨_, Y.pick [] rfl, rfl, T⟩
                          · exact ⟨_, rfl, Y.pick [0, 1, 2, 3, 4] rfl, T⟩
                        · exact ⟨_, rfl, Y.pick [0, 1, 2, 3, 4] rfl, T⟩
                      · subst hB_14
                        clear T0 Y
                        rintro v5 hv9 ⟨v5, e, Y, T⟩
                        cases e
                        replace T := T1 v5 T
                        have Y : Sy _ _ _ [_, _, _, _, _] := Y
                        exact ⟨_, _, _, _, rfl, Y.pick [0, 1, 2, 3, 4] rfl, T⟩
                    · obtain ⟨Jv3, T0, T1⟩ := T
                      obtain ⟨B_15, hB_15, _⟩ := Y.cut [] [1, 2, 3, 4] rfl
                      obtain ⟨F_4, hF_4⟩ := Y.fnG (k := 0) rfl
                      refine ⟨fun lz h' => ∃ (v13 : Int) (f5 : Int) (gS_4 : List Nat) (raG_3_3 : Gr), lz = [.int .i64 v13, .int .i64 f5] ∧ Sy h [] h' ([F_4 gS_4 raG_3_3] ++ B_15) ∧ Jv3 v13 f5 raG_3_3, ?_, ?_⟩
                      · subst hB_15 hF_4
                        replace T := T0
                        clear T0 T1
                        refine cnd_imp T (fun T => ?_) (fun T => ?_)
                        · refine callX_sy (T _ _ _ (Y.pick [0] rfl).hp) (fun _ _ ⟨_, _, _, _, p, _⟩ => p.fr) (allc (Y.nO 4 [0] rfl rfl) alln) ?_
                          rintro v6 hv10 ⟨gS2_3, gG1_3, ra2, rb3, PP, rfl, T⟩
                          have Y : Sy _ _ hv10 [_, _, _, _, _] := Y.call2 [0, 1, 2, 3, 4] rfl (A := [_]) rfl rfl PP ⟨rfl, trivial⟩
                          clear PP
                          refine ⟨ra2, rb3, rfl, ?_⟩
                          obtain ⟨Jv4, T0, T1⟩ := T
                          obtain ⟨B_16, hB_16, _⟩ := Y.cut [] [0, 1, 2, 3, 4] rfl
                          refine ⟨fun lz h' => ∃ (f2 : Int), lz = [.int .i64 f2] ∧ Sy h [] h' ([] ++ B_16) ∧ Jv4 f2, ?_, ?_⟩
                          · subst hB_16
                            replace T := T0
                            clear T0 T1
                            refine cnd_imp T (fun T => ?_) (fun T => ?_)
                            · refine cnd_imp T (fun T => ?_) (fun T => ?_)
                              · exact ⟨_, Y.pick [] rfl, rfl, T⟩
                              · exact ⟨_, rfl, Y.pick [0, 1, 2, 3, 4] rfl, T⟩
                            · exact ⟨_, rfl, Y.pick [0, 1, 2, 3, 4] rfl, T⟩
                          · subst hB_16
                            clear T0 Y
                            rintro f2 hv11 ⟨f2, e, Y, T⟩
                            cases e
                            replace T := T1 f2 T
                            have Y : Sy _ _ _ [_, _, _, _, _] := Y
                            exact ⟨_, _, _, _, rfl, Y.pick [0, 1, 2, 3, 4] rfl, T⟩
                        · obtain ⟨Jv5, T0, T1⟩ := T
                          obtain ⟨B_17, hB_17, _⟩ := Y.cut [] [1, 2, 3, 4] rfl
                          obtain ⟨F_5, hF_5⟩ := Y.fnG (k := 0) rfl
                          refine ⟨fun lz h' => ∃ (v12 : Int) (f4 : Int) (gS_5 : List Nat) (raG_3_4 : Gr), lz = [.int .i64 v12, .int .i64 f4] ∧ Sy h [] h' ([F_5 gS_5 raG_3_4] ++ B_17) ∧ Jv5 v12 f4 raG_3_4, ?_, ?_⟩
                          · subst hB_17 hF_5
                            replace T := T0
                            clear T0 T1
                            refine cnd_imp T (fun T => ?_) (fun T => ?_)
                            · refine callX_sy (T _ _ _ (Y.pick [0] rfl).hp) (fun _ _ ⟨_, _, _, _, _, p, _⟩ => p.fr) (allc (Y.nO 4 [0] rfl rfl) alln) ?_
                              rintro v7 hv12 ⟨gS2_4, gG1_4, ra3, rb4, rc, PP, rfl, T⟩
                              have Y : Sy _ _ hv12 [_, _, _, _, _] := Y.call2 [0, 1, 2, 3, 4] rfl (A := [_]) rfl rfl PP ⟨rfl, trivial⟩
                              clear PP
                              refine ⟨ra3, rb4, rc, rfl, ?_⟩
                              obtain ⟨Jv6, T0, T1⟩ := T
                              obtain ⟨B_18, hB_18, _⟩ := Y.cut [] [0, 1, 2, 3, 4] rfl
                              refine ⟨fun lz h' => ∃ (v8 : Int) (f3 : Int), lz = [.int .i64 v8, .int .i64 f3] ∧ Sy h [] h' ([] ++ B_18) ∧ Jv6 v8 f3, ?_, ?_⟩
                              · subst hB_18
                                replace T := T0
                                clear T0 T1
                                refine cnd_imp T (fun T => ?_) (fun T => ?_)
                                · refine cnd_imp T (fun T => ?_) (fun T => ?_)
                                  · exact ⟨_, Y.pick [] rfl, rfl, T⟩
                                  · refine cnd_imp T (fun T => ?_) (fun T => ?_)
                                    · exact ⟨_, Y.pick [] rfl, rfl, T⟩
                                    · exact ⟨_, _, rfl, Y.pick [0, 1, 2, 3, 4] rfl, T⟩
                                · exact ⟨_, _, rfl, Y.pick [0, 1, 2, 3, 4] rfl, T⟩
                              · subst hB_18
                                clear T0 Y
                                rintro v8 f3 hv13 ⟨v8, f3, e, Y, T⟩
                                cases e
                                replace T := T1 v8 f3 T
                                have Y : Sy _ _ _ [_, _, _, _, _] := Y
                                exact ⟨_, _, _, _, rfl, Y.pick [0, 1, 2, 3, 4] rfl, T⟩
                            · obtain ⟨Jv7, T0, T1⟩ := T
                              obtain ⟨B_19, hB_19, _⟩ := Y.cut [] [1, 2, 3, 4] rfl
                              obtain ⟨F_6, hF_6⟩ := Y.fnG (k := 0) rfl
                              refine ⟨fun lz h' => ∃ (gS_6 : List Nat) (raG_3_5 : Gr), lz = [] ∧ Sy h [] h' ([F_6 gS_6 raG_3_5] ++ B_19) ∧ Jv7 raG_3_5, ?_, ?_⟩
                              · subst hB_19 hF_6
                                replace T := T0
                                clear T0 T1
                                refine cnd_imp T (fun T => ?_) (fun T => ?_)
                                · refine callX_sy (T _ _ _ (Y.pick [0] rfl).hp) (fun _ _ ⟨_, _, _, _, p, _⟩ => p.fr) (allc (Y.nO 4 [0] rfl rfl) alln) ?_
                                  rintro v9 hv14 ⟨gS2_5, gG1_5, ra4, rb5, PP, rfl, T⟩
                                  have Y : Sy _ _ hv14 [_, _, _, _, _] := Y.call2 [0, 1, 2, 3, 4] rfl (A := [_]) rfl rfl PP ⟨rfl, trivial⟩
                                  clear PP
                                  refine ⟨ra4, rb5, rfl, ?_⟩
                                  exact ⟨_, _, rfl, Y.pick [0, 1, 2, 3, 4] rfl, T⟩
                                · obtain ⟨Jv8, T0, T1⟩ := T
                                  obtain ⟨B_20, hB_20, _⟩ := Y.cut [] [1, 2, 3, 4] rfl
                                  obtain ⟨F_7, hF_7⟩ := Y.fnG (k := 0) rfl
                                  refine ⟨fun lz h' => ∃ (gS_7 : List Nat) (raG_3_6 : Gr), lz = [] ∧ Sy h [] h' ([F_7 gS_7 raG_3_6] ++ B_20) ∧ Jv8 raG_3_6, ?_, ?_⟩
                                  · subst hB_20 hF_7
                                    replace T := T0
                                    clear T0 T1
                                    refine cnd_imp T (fun T => ?_) (fun T => ?_)
                                    · refine callX_sy (T _ _ _ (Y.pick [0] rfl).hp) (fun _ _ ⟨_, _, _, p, _⟩ => p.fr) (allc (Y.nO 4 [0] rfl rfl) alln) ?_
                                      rintro v10 hv15 ⟨gS2_6, gG1_6, r2, PP, rfl, T⟩
                                      have Y : Sy _ _ hv15 [_, _, _, _, _] := Y.call2 [0, 1, 2, 3, 4] rfl (A := [_]) rfl rfl PP ⟨rfl, trivial⟩
                                      clear PP
                                      refine ⟨r2, rfl, ?_⟩
                                      exact ⟨_, _, rfl, Y.pick [0, 1, 2, 3, 4] rfl, T⟩
                                    · obtain ⟨Jv9, T0, T1⟩ := T
                                      obtain ⟨B_21, hB_21, _⟩ := Y.cut [] [1, 2, 3, 4] rfl
                                      obtain ⟨F_8, hF_8⟩ := Y.fnG (k := 0) rfl
                                      refine ⟨fun lz h' => ∃ (gS_8 : List Nat) (raG_3_7 : Gr), lz = [] ∧ Sy h [] h' ([F_8 gS_8 raG_3_7] ++ B_21) ∧ Jv9 raG_3_7, ?_, ?_⟩
                                      · subst hB_21 hF_8
                                        replace T := T0
                                        clear T0 T1
                                        refine cnd_imp T (fun T => ?_) (fun T => ?_)
                                        · refine callX_sy (T _ _ _ (Y.pick [0] rfl).hp) (fun _ _ ⟨_, _, _, _, p, _⟩ => p.fr) (allc (Y.nO 4 [0] rfl rfl) alln) ?_
                                          rintro v11 hv16 ⟨gS2_7, gG1_7, ra5, rb6, PP, rfl, T⟩
                                          have Y : Sy _ _ hv16 [_, _, _, _, _] := Y.call2 [0, 1, 2, 3, 4] rfl (A := [_]) rfl rfl PP ⟨rfl, trivial⟩
                                          clear PP
                                          refine ⟨ra5, rb6, rfl, ?_⟩
                                          exact ⟨_, _, rfl, Y.pick [0, 1, 2, 3, 4] rfl, T⟩
                                        · exact ⟨_, _, rfl, Y.pick [0, 1, 2, 3, 4] rfl, T⟩
                                      · subst hB_21 hF_8
                                        clear T0 Y
                                        rintro hv17 ⟨gS_8, raG_3_7, e, Y, T⟩
                                        cases e
                                        replace T := T1 raG_3_7 T
                                        have Y : Sy _ _ _ [_, _, _, _, _] := Y
                                        exact ⟨_, _, rfl, Y.pick [0, 1, 2, 3, 4] rfl, T⟩
                                  · subst hB_20 hF_7
                                    clear T0 Y
                                    rintro hv18 ⟨gS_7, raG_3_6, e, Y, T⟩
                                    cases e
                                    replace T := T1 raG_3_6 T
                                    have Y : Sy _ _ _ [_, _, _, _, _] := Y
                                    exact ⟨_, _, rfl, Y.pick [0, 1, 2, 3, 4] rfl, T⟩
                              · subst hB_19 hF_6
                                clear T0 Y
                                rintro hv19 ⟨gS_6, raG_3_5, e, Y, T⟩
                                cases e
                                replace T := T1 raG_3_5 T
                                have Y : Sy _ _ _ [_, _, _, _, _] := Y
                                exact ⟨_, _, _, _, rfl, Y.pick [0, 1, 2, 3, 4] rfl, T⟩
                          · subst hB_17 hF_5
                            clear T0 Y
                            rintro v12 f4 hv20 ⟨v12, f4, gS_5, raG_3_4, e, Y, T⟩
                            cases e
                            replace T := T1 v12 f4 raG_3_4 T
                            have Y : Sy _ _ _ [_, _, _, _, _] := Y
                            exact ⟨_, _, _, _, rfl, Y.pick [0, 1, 2, 3, 4] rfl, T⟩
                      · subst hB_15 hF_4
                        clear T0 Y
                        rintro v13 f5 hv21 ⟨v13, f5, gS_4, raG_3_3, e, Y, T⟩
                        cases e
                        replace T := T1 v13 f5 raG_3_3 T
                        have Y : Sy _ _ _ [_, _, _, _, _] := Y
                        exact ⟨_, _, _, _, rfl, Y.pick [0, 1, 2, 3, 4] rfl, T⟩
                  · subst hB_13 hF_3
                    clear T0 Y
                    rintro v14 f6 hv22 ⟨v14, f6, gS_3, raG_3_2, e, Y, T⟩
                    cases e
                    replace T := T1 v14 f6 raG_3_2 T
                    have Y : Sy _ _ _ [_, _, _, _, _] := Y
                    exact loopBack hm_2 ⟨_, _, _, _, _, rfl, Y.pick [0, 1, 2, 3] rfl, T.1, rfl⟩ T.2
                · exact hK2 _ _ _ ⟨_, _, Y.pick [0, 1, 2, 3] rfl, T⟩
              · exact hK2 _ _ _ ⟨_, _, Y.pick [0, 1, 2, 3] rfl, T⟩
    · replace T := T.1 rfl
      have Y : Sy _ _ hv3 [_, _, _] := Y.gr PP.fr
      clear PP
      refine ⟨_, rb, rfl, ?_⟩
      obtain ⟨Jv_2, T0, T1⟩ := T
      obtain ⟨B, hB, _⟩ := Y.cut [] [0, 1, 2] rfl
      intro K
      have hK : ∀  (hv4 : Heap), (Sy h [] hv4 ([] ++ B) ∧ Jv_2) → K hv4 := by
        subst hB
        clear T0 Y
        rintro hv4 ⟨Y, T⟩
        replace T := T1 T
        have Y : Sy _ _ _ [_, _, _] := Y
        unfold K
        refine cnd_imp T (fun T => ?_) (fun T => ?_)
        · exact ⟨_, Y.pick [] rfl, rfl, T⟩
        · exact ⟨_, Y.pick [] rfl, rfl, T⟩
      subst hB
      replace T := T0
      clear T0 T1
      refine cnd_imp T (fun T => ?_) (fun T => ?_)
      · exact hK _ ⟨Y.pick [0, 1, 2] rfl, T⟩
      · refine cnd_imp T (fun T => ?_) (fun T => ?_)
        · exact hK _ ⟨Y.pick [0, 1, 2] rfl, T⟩
        · refine cnd_imp T (fun T => ?_) (fun T => ?_)
          · refine cnd_imp T (fun T => ?_) (fun T => ?_)
            · exact ⟨_, Y.pick [] rfl, rfl, T⟩
            · exact ⟨_, Y.pick [] rfl, rfl, T⟩
          · have Y0 := Y
            have F : Fr [] hv3 hv3 := Fr.refl _ _
            obtain ⟨Jv_3, T0, T1⟩ := T
            obtain ⟨B_2, hB_2, _⟩ := Y.cut [] [0, 1, 2] rfl
            intro K2
            have hK2 : ∀ (v15 : Int) (f7 : Int) (hv23 : Heap), (Sy h [] hv23 ([] ++ B_2) ∧ Jv_3 v15 f7) → K2 v15 f7 hv23 := by
              subst hB_2
              clear T0 Y
              rintro v15 f7 hv23 ⟨Y, T⟩
              replace T := T1 v15 f7 T
              have Y : Sy _ _ _ [_, _, _] := Y
              unfold K2
              exact T.elim
            subst hB_2
            replace T := T0
            clear T0 T1
            obtain ⟨Iv, m, T0, T1⟩ := T
            obtain ⟨B_3, hB_3, YB⟩ := Y.cut [] [0, 1, 2] rfl
            obtain ⟨JJ, hJJ⟩ : ∃ JJ : Nat → List Value → Heap → Prop, JJ = (fun k lz h' => ∃ (v3 : Int) (f : Int) (i : Int), lz = [.int .i64 v3, .int .i64 f, .int .i64 i] ∧ Sy h [] h' ([] ++ B_3) ∧ Iv v3 f i ∧ m v3 f i = k) := ⟨_, rfl⟩
            refine ⟨fun lz h' => ∃ k, JJ k lz h', Lm JJ, ?_, ?_⟩
            · subst hJJ hB_3
              exact ⟨_, _, _, _, rfl, YB, T0, rfl⟩
            · clear YB T0 Y
              intro v3 f i hv5 hI
              obtain ⟨k, hI, hm⟩ := loopIn hI
              subst hJJ hB_3
              obtain ⟨v3, f, i, e, Y, T, rfl⟩ := hI
              cases e
              replace T := T1 v3 f i T
              have Y : Sy _ _ _ [_, _, _] := Y
              refine cnd_imp T (fun T => ?_) (fun T => ?_)
              · refine cnd_imp T (fun T => ?_) (fun T => ?_)
                · obtain ⟨q, q_2, T⟩ := T
                  obtain ⟨b_2, o_2, hb, hr, ops, hx⟩ := Y.atV 1 rfl q q_2
                  refine ⟨b_2, o_2, hb, q, q_2, ?_⟩
                  replace T := T ops hx
                  refine ⟨_, Y.cellV 1 rfl hb (t := 0) hx rfl, ?_⟩
                  refine ⟨_, Y.cellV 1 rfl hb (t := 1) hx rfl, ?_⟩
                  refine ⟨_, Y.cellV 1 rfl hb (t := 2) hx rfl, ?_⟩
                  refine ⟨_, Y.cellV 1 rfl hb (t := 3) hx rfl, ?_⟩
                  intro hv6
                  have Y : Sy _ _ hv6 [_, _, _, _] := Y.junk _
                  clear_value hv6
                  intro hv7
                  have Y : Sy _ _ hv7 [_, _, _, _] := ((((Y.stJ 3 rfl _ _).stJ 3 rfl _ _).stJ 3 rfl _ _).stJ 3 rfl _ _)
                  clear_value hv7
                  obtain ⟨Jv, T0, T1⟩ := T
                  obtain ⟨B_4, hB_4, _⟩ := Y.cut [] [0, 1, 2, 3] rfl
                  refine ⟨fun lz h' => ∃ (v14 : Int) (f6 : Int), lz = [.int .i64 v14, .int .i64 f6] ∧ Sy h [] h' ([] ++ B_4) ∧ Jv v14 f6, ?_, ?_⟩
                  · subst hB_4
                    replace T := T0
                    clear T0 T1
                    refine cnd_imp T (fun T => ?_) (fun T => ?_)
                    · exact T.elim
                    · obtain ⟨Jv3, T0, T1⟩ := T
                      obtain ⟨B_5, hB_5, _⟩ := Y.cut [] [0, 1, 2, 3] rfl
                      refine ⟨fun lz h' => ∃ (v13 : Int) (f5 : Int), lz = [.int .i64 v13, .int .i64 f5] ∧ Sy h [] h' ([] ++ B_5) ∧ Jv3 v13 f5, ?_, ?_⟩
                      · subst hB_5
                        replace T := T0
                        clear T0 T1
                        refine cnd_imp T (fun T => ?_) (fun T => ?_)
                        · exact T.elim
                        · obtain ⟨Jv5, T0, T1⟩ := T
                          obtain ⟨B_6, hB_6, _⟩ := Y.cut [] [0, 1, 2, 3] rfl
                          refine ⟨fun lz h' => ∃ (v12 : Int) (f4 : Int), lz = [.int .i64 v12, .int .i64 f4] ∧ Sy h [] h' ([] ++ B_6) ∧ Jv5 v12 f4, ?_, ?_⟩
                          · subst hB_6
                            replace T := T0
                            clear T0 T1
                            refine cnd_imp T (fun T => ?_) (fun T => ?_)
                            · exact T.elim
                            · obtain ⟨Jv7, T0, T1⟩ := T
                              obtain ⟨B_7, hB_7, _⟩ := Y.cut [] [0, 1, 2, 3] rfl
                              refine ⟨fun lz h' => lz = [] ∧ Sy h [] h' ([] ++ B_7) ∧ Jv7, ?_, ?_⟩
                              · subst hB_7
                                replace T := T0
                                clear T0 T1
                                refine cnd_imp T (fun T => ?_) (fun T => ?_)
                                · exact T.elim
                                · obtain ⟨Jv8, T0, T1⟩ := T
                                  obtain ⟨B_8, hB_8, _⟩ := Y.cut [] [0, 1, 2, 3] rfl
                                  refine ⟨fun lz h' => lz = [] ∧ Sy h [] h' ([] ++ B_8) ∧ Jv8, ?_, ?_⟩
                                  · subst hB_8
                                    replace T := T0
                                    clear T0 T1
                                    refine cnd_imp T (fun T => ?_) (fun T => ?_)
                                    · exact T.elim
                                    · obtain ⟨Jv9, T0, T1⟩ := T
                                      obtain ⟨B_9, hB_9, _⟩ := Y.cut [] [0, 1, 2, 3] rfl
                                      refine ⟨fun lz h' => lz = [] ∧ Sy h [] h' ([] ++ B_9) ∧ Jv9, ?_, ?_⟩
                                      · subst hB_9
                                        replace T := T0
                                        clear T0 T1
                                        refine cnd_imp T (fun T => ?_) (fun T => ?_)
                                        · exact T.elim
                                        · exact ⟨rfl, Y.pick [0, 1, 2, 3] rfl, T⟩
                                      · subst hB_9
                                        clear T0 Y
                                        rintro hv17 ⟨e, Y, T⟩
                                        cases e
                                        replace T := T1 T
                                        have Y : Sy _ _ _ [_, _, _, _] := Y
                                        exact ⟨rfl, Y.pick [0, 1, 2, 3] rfl, T⟩
                                  · subst hB_8
                                    clear T0 Y
                                    rintro hv18 ⟨e, Y, T⟩
                                    cases e
                                    replace T := T1 T
                                    have Y : Sy _ _ _ [_, _, _, _] := Y
                                    exact ⟨rfl, Y.pick [0, 1, 2, 3] rfl, T⟩
                              · subst hB_7
                                clear T0 Y
                                rintro hv19 ⟨e, Y, T⟩
                                cases e
                                replace T := T1 T
                                have Y : Sy _ _ _ [_, _, _, _] := Y
                                exact ⟨_, _, rfl, Y.pick [0, 1, 2, 3] rfl, T⟩
                          · subst hB_6
                            clear T0 Y
                            rintro v12 f4 hv20 ⟨v12, f4, e, Y, T⟩
                            cases e
                            replace T := T1 v12 f4 T
                            have Y : Sy _ _ _ [_, _, _, _] := Y
                            exact ⟨_, _, rfl, Y.pick [0, 1, 2, 3] rfl, T⟩
                      · subst hB_5
                        clear T0 Y
                        rintro v13 f5 hv21 ⟨v13, f5, e, Y, T⟩
                        cases e
                        replace T := T1 v13 f5 T
                        have Y : Sy _ _ _ [_, _, _, _] := Y
                        exact ⟨_, _, rfl, Y.pick [0, 1, 2, 3] rfl, T⟩
                  · subst hB_4
                    clear T0 Y
                    rintro v14 f6 hv22 ⟨v14, f6, e, Y, T⟩
                    cases e
                    replace T := T1 v14 f6 T
                    have Y : Sy _ _ _ [_, _, _, _] := Y
                    exact loopBack hm ⟨_, _, _, rfl, Y.pick [0, 1, 2] rfl, T.1, rfl⟩ T.2
                · exact hK2 _ _ _ ⟨Y.pick [0, 1, 2] rfl, T⟩
              · exact hK2 _ _ _ ⟨Y.pick [0, 1, 2] rfl, T⟩
end Go.Proofs.Ytmcloipjlihhlaa.N
