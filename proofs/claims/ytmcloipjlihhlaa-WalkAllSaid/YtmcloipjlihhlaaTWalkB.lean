/- Functions: what is left to be shown of each, over memory and without: printed by program, tied to the loaded functions by the kernel. Conditions: none. -/
import Derived.Test.YtmcloipjlihhlaaSEnv
import Derived.Test.YtmcloipjlihhlaaYMore
import Derived.Test.YtmcloipjlihhlaaTWalkA
namespace Go.Proofs.Ytmcloipjlihhlaa.N
open Go.Proofs.Ytmcloipjlihhlaa
open Go.X
set_option maxRecDepth 100000
set_option linter.unusedVariables false
set_option linter.unusedSimpArgs false
set_option maxHeartbeats 2000000

/-- tracery/tracerylaw6.each -/
def Ok87 (g : Int) (edgesV : List (Int × Int)) (s : Int) (orderV : List Int) (byV : List Int) (farV : List Int) (lowV : List Int) (R : Bool → Prop) : Prop :=
  ∀ (h : Heap) (gA : Option Addr) (gL gC : Nat) (tA : Option Addr) (tL tC : Nat) (tA2 : Option Addr) (tL2 tC2 : Nat) (tA3 : Option Addr) (tL3 tC3 : Nat) (tA4 : Option Addr) (tL4 tC4 : Nat), Hp h [Ck.vw eP gA gL gC edgesV, Ck.vw eI tA tL tC orderV, Ck.vw eI tA2 tL2 tC2 byV, Ck.vw eI tA3 tL3 tC3 farV, Ck.vw eI tA4 tL4 tC4 lowV] → CallsH Try.prog 87 #[.agg #[.int .i64 g, .slice gA gL gC], .int .i64 s, .agg #[.slice tA tL tC, .slice tA2 tL2 tC2, .slice tA3 tL3 tC3, .slice tA4 tL4 tC4]] h fun v h' => ∃ (rV : Bool), Sy h [] h' [] ∧ v = .bool rV ∧ R rV
theorem Ok87.mono {g edgesV s orderV byV farV lowV} {R R' : Bool → Prop} (H : Ok87 g edgesV s orderV byV farV lowV R) (kz : ∀ rV, R rV → R' rV) : Ok87 g edgesV s orderV byV farV lowV R' :=
  fun h gA gL gC tA tL tC tA2 tL2 tC2 tA3 tL3 tC3 tA4 tL4 tC4 hp => (H h gA gL gC tA tL tC tA2 tL2 tC2 tA3 tL3 tC3 tA4 tL4 tC4 hp).mono fun _ _ ⟨rV, P, e, q⟩ => ⟨rV, P, e, kz _ q⟩
/-- tracery/tracerylaw6.WalkAll -/
def S15 (g : Int) (gA : Option Addr) (gL gC : Nat) (s : Int) (h : Heap) (R : Value → Heap → Prop) : Prop :=
  let hv : Heap := h.push (.cells #[.int .i64 g, .slice gA gL gC] 26)
  callX Try.prog 80 #[] hv [h.size] fun v hv2 =>
  ∃ r : Bool, v = .bool r ∧
  cnd (!r)
    (R (.bool false) hv2)
    (callX Try.prog 59 #[.agg #[.int .i64 g, .slice gA gL gC]] hv2 [h.size] fun v2 hv3 =>
    ∃ r2 : Bool, v2 = .bool r2 ∧
    cnd (!r2)
      (R (.bool true) hv3)
      (callX Try.prog 63 #[.agg #[.int .i64 g, .slice gA gL gC]] hv3 [h.size] fun v3 hv4 =>
      ∃ r3 : Int, ∃ (rA : Option Addr) (rL rC : Nat), v3 = .agg #[.int .i64 r3, .slice rA rL rC] ∧
      let hv5 : Heap := hv4.push (.cells #[.int .i64 0, .slice none 0 0] 26)
      let hv6 : Heap := hset (hset hv5 hv4.size 0 (.int .i64 r3)) hv4.size (0 + 1) (.slice rA rL rC)
      let hv7 : Heap := hv6.push (.cells #[.slice none 0 0, .int .i64 0] 90)
      callX Try.prog 43 #[.agg #[.int .i64 g, .slice gA gL gC]] hv7 [hv4.size, h.size] fun v4 hv8 =>
      ∃ r4 : Bool, v4 = .bool r4 ∧
      ∃ Jv : List Value → Heap → Prop, -- join 33 ['want']
      ( cnd (!r4)
         (Jv [.int .i64 1] hv8)
         (cnd (decide (s < (0 : Int)))
           (Jv [.int .i64 2] hv8)
           (∃ Jv2 : List Value → Heap → Prop, -- join 41 ['want']
           ( cnd (decide (s ≥ g))
              (Jv2 [.int .i64 2] hv8)
              (Jv2 [.int .i64 0] hv8)) ∧
           ∀ want : Int, ∀ hv9, Jv2 [.int .i64 want] hv9 →
           Jv [.int .i64 want] hv9))) ∧
      ∀ want2 : Int, ∀ hv10, Jv [.int .i64 want2] hv10 →
      ∃ (Iv : List Value → Heap → Prop) (m : List Value → Heap → Nat), Iv [.int .i64 0] hv10 ∧ -- loop 0: ['turn']
      ∀ turn : Int, ∀ hv11, Iv [.int .i64 turn] hv11 →
      cnd (decide (turn < (2 : Int)))
        (callX Try.prog 81 #[.agg #[.int .i64 r3, .slice rA rL rC], .int .i64 s] hv11 [h.size, hv4.size] fun v5 hv12 =>
        ∃ (raA : Option Addr) (raL raC : Nat), ∃ (raA2 : Option Addr) (raL2 raC2 : Nat), ∃ (raA3 : Option Addr) (raL3 raC3 : Nat), ∃ (raA4 : Option Addr) (raL4 raC4 : Nat), ∃ rb : Int, v5 = .tuple #[.agg #[.slice raA raL raC, .slice raA2 raL2 raC2, .slice raA3 raL3 raC3, .slice raA4 raL4 raC4], .int .i64 rb] ∧
        let hv13 : Heap := hv12.push (.cells #[.slice none 0 0, .slice none 0 0, .slice none 0 0, .slice none 0 0] 113)
        let hv14 : Heap := hset (hset (hset (hset hv13 hv12.size 0 (.slice raA raL raC)) hv12.size (0 + 1) (.slice raA2 raL2 raC2)) hv12.size ((0 + 1) + 1) (.slice raA3 raL3 raC3)) hv12.size (((0 + 1) + 1) + 1) (.slice raA4 raL4 raC4)
        callX Try.prog 82 #[.agg #[.int .i64 r3, .slice rA rL rC], .int .i64 s] hv14 [hv12.size, h.size, hv4.size] fun v6 hv15 =>
        ∃ (raA5 : Option Addr) (raL5 raC5 : Nat), ∃ (raA6 : Option Addr) (raL6 raC6 : Nat), ∃ (raA7 : Option Addr) (raL7 raC7 : Nat), ∃ (raA8 : Option Addr) (raL8 raC8 : Nat), ∃ rb2 : Int, v6 = .tuple #[.agg #[.slice raA5 raL5 raC5, .slice raA6 raL6 raC6, .slice raA7 raL7 raC7, .slice raA8 raL8 raC8], .int .i64 rb2] ∧
        let hv16 : Heap := hv15.push (.cells #[.slice none 0 0, .slice none 0 0, .slice none 0 0, .slice none 0 0] 113)
        let hv17 : Heap := hset (hset (hset (hset hv16 hv15.size 0 (.slice raA5 raL5 raC5)) hv15.size (0 + 1) (.slice raA6 raL6 raC6)) hv15.size ((0 + 1) + 1) (.slice raA7 raL7 raC7)) hv15.size (((0 + 1) + 1) + 1) (.slice raA8 raL8 raC8)
        callX Try.prog 83 #[.agg #[.int .i64 r3, .slice rA rL rC]] hv17 [hv15.size, hv12.size, h.size, hv4.size] fun v7 hv18 =>
        ∃ (raA9 : Option Addr) (raL9 raC9 : Nat), ∃ rb3 : Int, ∃ rc : Int, v7 = .tuple #[.slice raA9 raL9 raC9, .int .i64 rb3, .int .i64 rc] ∧
        let hv19 : Heap := hv18.push (.cells #[.slice none 0 0, .slice none 0 0, .slice none 0 0, .slice none 0 0] 113)
        let hv20 : Heap := hv19.push (.cells #[.slice none 0 0, .slice none 0 0, .slice none 0 0, .slice none 0 0] 113)
        ∃ Jv3 : List Value → Heap → Prop, -- join 65 []
        ( cnd (want2 == (0 : Int))
           (callX Try.prog 84 #[.agg #[.int .i64 g, .slice gA gL gC], .int .i64 s] hv20 [hv19.size, hv18.size, hv15.size, hv12.size, h.size, hv4.size] fun v8 hv21 =>
           ∃ (rA2 : Option Addr) (rL2 rC2 : Nat), ∃ (rA3 : Option Addr) (rL3 rC3 : Nat), ∃ (rA4 : Option Addr) (rL4 rC4 : Nat), ∃ (rA5 : Option Addr) (rL5 rC5 : Nat), v8 = .agg #[.slice rA2 rL2 rC2, .slice rA3 rL3 rC3, .slice rA4 rL4 rC4, .slice rA5 rL5 rC5] ∧
           Fr [] hv20 hv21 ∧
           callX Try.prog 85 #[.agg #[.int .i64 g, .slice gA gL gC], .int .i64 s] hv21 [hv19.size, hv18.size, hv15.size, hv12.size, h.size, hv4.size] fun v9 hv22 =>
           ∃ (rA6 : Option Addr) (rL6 rC6 : Nat), ∃ (rA7 : Option Addr) (rL7 rC7 : Nat), ∃ (rA8 : Option Addr) (rL8 rC8 : Nat), ∃ (rA9 : Option Addr) (rL9 rC9 : Nat), v9 = .agg #[.slice rA6 rL6 rC6, .slice rA7 rL7 rC7, .slice rA8 rL8 rC8, .slice rA9 rL9 rC9] ∧
           Fr [] hv20 hv22 ∧
           let hv23 : Heap := hset (hset (hset (hset hv22 hv18.size 0 (.slice rA2 rL2 rC2)) hv18.size (0 + 1) (.slice rA3 rL3 rC3)) hv18.size ((0 + 1) + 1) (.slice rA4 rL4 rC4)) hv18.size (((0 + 1) + 1) + 1) (.slice rA5 rL5 rC5)
           let hv24 : Heap := hset (hset (hset (hset hv23 hv19.size 0 (.slice rA6 rL6 rC6)) hv19.size (0 + 1) (.slice rA7 rL7 rC7)) hv19.size ((0 + 1) + 1) (.slice rA8 rL8 rC8)) hv19.size (((0 + 1) + 1) + 1) (.slice rA9 rL9 rC9)
           Jv3 [.slice rA2 rL2 rC2, .slice rA3 rL3 rC3, .slice rA4 rL4 rC4, .slice rA5 rL5 rC5, .slice rA6 rL6 rC6, .slice rA7 rL7 rC7, .slice rA8 rL8 rC8, .slice rA9 rL9 rC9] hv24)
           (Jv3 [.slice none 0 0, .slice none 0 0, .slice none 0 0, .slice none 0 0, .slice none 0 0, .slice none 0 0, .slice none 0 0, .slice none 0 0] hv20)) ∧
        ∀ (c0A : Option Addr) (c0L c0C : Nat), ∀ (c1A : Option Addr) (c1L c1C : Nat), ∀ (c2A : Option Addr) (c2L c2C : Nat), ∀ (c3A : Option Addr) (c3L c3C : Nat), ∀ (c0A2 : Option Addr) (c0L2 c0C2 : Nat), ∀ (c1A2 : Option Addr) (c1L2 c1C2 : Nat), ∀ (c2A2 : Option Addr) (c2L2 c2C2 : Nat), ∀ (c3A2 : Option Addr) (c3L2 c3C2 : Nat), ∀ hv25, Jv3 [.slice c0A c0L c0C, .slice c1A c1L c1C, .slice c2A c2L c2C, .slice c3A c3L c3C, .slice c0A2 c0L2 c0C2, .slice c1A2 c1L2 c1C2, .slice c2A2 c2L2 c2C2, .slice c3A2 c3L2 c3C2] hv25 →
        let K := fun (hv29 : Heap) =>
          (R (.bool false) hv29)
        cnd (rb != want2)
          (K hv25)
          (cnd (rb2 != want2)
            (K hv25)
            (callX Try.prog 86 #[.agg #[.slice raA raL raC, .slice raA2 raL2 raC2, .slice raA3 raL3 raC3, .slice raA4 raL4 raC4], .agg #[.slice c0A c0L c0C, .slice c1A c1L c1C, .slice c2A c2L c2C, .slice c3A c3L c3C]] hv25 [hv18.size, hv19.size, h.size, hv4.size, hv12.size, hv15.size] fun v10 hv26 =>
            ∃ r5 : Bool, v10 = .bool r5 ∧
            cnd (!r5)
              (K hv26)
              (callX Try.prog 86 #[.agg #[.slice raA5 raL5 raC5, .slice raA6 raL6 raC6, .slice raA7 raL7 raC7, .slice raA8 raL8 raC8], .agg #[.slice c0A2 c0L2 c0C2, .slice c1A2 c1L2 c1C2, .slice c2A2 c2L2 c2C2, .slice c3A2 c3L2 c3C2]] hv26 [hv18.size, hv19.size, h.size, hv4.size, hv12.size, hv15.size] fun v11 hv27 =>
              ∃ r6 : Bool, v11 = .bool r6 ∧
              cnd (!r6)
                (K hv27)
                (callX Try.prog 73 #[.agg #[.int .i64 r3, .slice rA rL rC], .agg #[.int .i64 g, .slice gA gL gC]] hv27 [hv18.size, hv19.size, h.size, hv4.size, hv12.size, hv15.size] fun v12 hv28 =>
                ∃ r7 : Bool, v12 = .bool r7 ∧
                cnd (!r7)
                  (R (.bool false) hv28)
                  (let K2 := fun (hv30 : Heap) =>
                    (∃ Jv4 : List Value → Heap → Prop, -- join 113 []
                    ( cnd r4
                       (callX Try.prog 36 #[.agg #[.int .i64 g, .slice gA gL gC], .slice none 0 0, .slice none 0 0] hv30 [hv18.size, hv19.size, h.size, hv4.size, hv12.size, hv15.size] fun v13 hv31 =>
                       ∃ (raA10 : Option Addr) (raL10 raC10 : Nat), ∃ rb4 : Int, v13 = .tuple #[.slice raA10 raL10 raC10, .int .i64 rb4] ∧
                       let K3 := fun (hv33 : Heap) =>
                         (R (.bool false) hv33)
                       cnd (rc != (0 : Int))
                         (K3 hv31)
                         (cnd (rb3 != rb4)
                           (K3 hv31)
                           (callX Try.prog 68 #[.slice raA9 raL9 raC9, .slice raA10 raL10 raC10] hv31 [hv18.size, hv19.size, h.size, hv4.size, hv12.size, hv15.size] fun v14 hv32 =>
                           ∃ r8 : Bool, v14 = .bool r8 ∧
                           cnd (!r8)
                             (R (.bool false) hv32)
                             (Jv4 [] hv32))))
                       (Jv4 [] hv30)) ∧
                    ∀ hv34, Jv4 [] hv34 →
                    let hv35 : Heap := hv34.push (.cells #[.slice raA raL raC, .slice raA2 raL2 raC2, .slice raA3 raL3 raC3, .slice raA5 raL5 raC5, .slice raA6 raL6 raC6, .slice raA7 raL7 raC7, .slice raA8 raL8 raC8, .slice raA9 raL9 raC9] 40)
                    callX Try.prog 70 #[.pointer (some (⟨hv6.size, 0, none⟩ : Addr)), .slice (some (⟨hv34.size, 0, none⟩ : Addr)) 8 8] hv35 [h.size, hv4.size, hv12.size, hv15.size, hv18.size] fun v15 hv36 =>
                    v15 = .tuple #[] ∧
                    callX Try.prog 87 #[.agg #[.int .i64 r3, .slice rA rL rC], .int .i64 s, .agg #[.slice c0A c0L c0C, .slice c1A c1L c1C, .slice c2A c2L c2C, .slice c3A c3L c3C]] hv36 [h.size, hv4.size, hv12.size, hv15.size, hv18.size] fun v16 hv37 =>
                    ∃ r9 : Bool, v16 = .bool r9 ∧
                    cnd (!r9)
                      (R (.bool false) hv37)
                      (Iv [.int .i64 (IntKind.i64.wrap (turn + (1 : Int)))] hv37 ∧ m [.int .i64 (IntKind.i64.wrap (turn + (1 : Int)))] hv37 < m [.int .i64 turn] hv11))
                  cnd (!r4)
                    (cnd (rc != (1 : Int))
                      (R (.bool false) hv28)
                      (cnd (rb3 != (0 : Int))
                        (R (.bool false) hv28)
                        (cnd (((raL9 : Nat) : Int) != (0 : Int))
                          (R (.bool false) hv28)
                          (K2 hv28))))
                    (K2 hv28)))))))
        (callX Try.prog 72 #[.pointer (some (⟨hv6.size, 0, none⟩ : Addr))] hv11 [h.size, hv4.size] fun v17 hv38 =>
        ∃ r10 : Bool, v17 = .bool r10 ∧
        R (.bool r10) hv38)))
theorem calls15 {h : Heap} {R : Value → Heap → Prop} (g : Int) (gA : Option Addr) (gL gC : Nat) (s : Int) (H : S15 g gA gL gC s h R) : CallsH Try.prog 15 #[.agg #[.int .i64 g, .slice gA gL gC], .int .i64 s] h R := by
  have e : S15 g gA gL gC s h R = FX (envX [2, 5, 10, 12, 17, 18] 157) { loops := [(0, ⟨[1, 2, 5, 6, 7, 8], [9], [2, 5], []⟩)], joins := [(33, ⟨[1, 2, 5, 6, 7], [8], [2, 5], []⟩), (41, ⟨[1, 2, 5, 6, 7], [8], [2, 5], []⟩), (65, ⟨[1, 2, 5, 6, 7, 8, 9, 10, 11, 12, 13, 14, 15, 16, 17, 18], [], [2, 5, 10, 12], [17, 18]⟩), (113, ⟨[1, 2, 5, 6, 7, 8, 9, 10, 12, 14, 17], [], [2, 5, 10, 12, 17], []⟩)], blocks := [], draws := [(21, ⟨6, false⟩)] } Try.f15 (Try.f15.body.getD .skip) [.agg #[.int .i64 g, .slice gA gL gC], .int .i64 s] h R := by kernel_rfl
  exact calls_of_FX (envX_ok _ _) Try.func15 (by kernel_rfl) (by kernel_rfl) (by kernel_rfl) (e ▸ H)
/-- tracery/tracerylaw6.WalkAll -/
def Ok15 (g : Int) (edgesV : List (Int × Int)) (s : Int) (R : Bool → Prop) : Prop :=
  ∀ (h : Heap) (gA : Option Addr) (gL gC : Nat), Hp h [Ck.vw eP gA gL gC edgesV] → CallsH Try.prog 15 #[.agg #[.int .i64 g, .slice gA gL gC], .int .i64 s] h fun v h' => ∃ (rV : Bool), Sy h [] h' [] ∧ v = .bool rV ∧ R rV
theorem Ok15.mono {g edgesV s} {R R' : Bool → Prop} (H : Ok15 g edgesV s R) (kz : ∀ rV, R rV → R' rV) : Ok15 g edgesV s R' :=
  fun h gA gL gC hp => (H h gA gL gC hp).mono fun _ _ ⟨rV, P, e, q⟩ => ⟨rV, P, e, kz _ q⟩
def T15 (g : Int) (edgesV : List (Int × Int)) (s : Int) (R : Bool → Prop) : Prop :=
  Ok80 (fun r =>
  cnd (!r)
    (R false)
    (Ok59 g edgesV (fun r2 =>
    cnd (!r2)
      (R true)
      (Ok63 g edgesV (fun r3 r_2 =>
      Ok43 g edgesV (fun r4 =>
      ∃ Jv : Int → Prop,
      ( cnd (!r4)
         (Jv 1)
         (cnd (decide (s < (0 : Int)))
           (Jv 2)
           (∃ Jv2 : Int → Prop,
           ( cnd (decide (s ≥ g))
              (Jv2 2)
              (Jv2 0)) ∧
           ∀ want : Int, Jv2 want →
           Jv want))) ∧
      ∀ want2 : Int, Jv want2 →
      ∃ (Iv : Int → List (List Int) → Int → Prop) (m : Int → List (List Int) → Int → Nat), Iv 0 ([]) 0 ∧
      ∀ turn : Int, ∀ y : List (List Int), ∀ y_2 : Int, Iv turn y y_2 →
      cnd (decide (turn < (2 : Int)))
        (Ok81 r3 r_2 s (fun ra ra_2 ra_3 ra_4 rb =>
        Ok82 r3 r_2 s (fun ra_5 ra_6 ra_7 ra_8 rb2 =>
        Ok83 r3 r_2 (fun ra_9 rb3 rc =>
        ∃ Jv3 : List Int → List Int → List Int → List Int → List Int → List Int → List Int → List Int → Prop,
        ( cnd (want2 == (0 : Int))
           (Ok84 g edgesV s (fun r_3 r_4 r_5 r_6 =>
           Ok85 g edgesV s (fun r_7 r_8 r_9 r_10 =>
           Jv3 r_3 r_4 r_5 r_6 r_7 r_8 r_9 r_10)))
           (Jv3 ([] : List Int) ([] : List Int) ([] : List Int) ([] : List Int) ([] : List Int) ([] : List Int) ([] : List Int) ([] : List Int))) ∧
        ∀ c0 : List Int, ∀ c1 : List Int, ∀ c2 : List Int, ∀ c3 : List Int, ∀ c0_2 : List Int, ∀ c1_2 : List Int, ∀ c2_2 : List Int, ∀ c3_2 : List Int, Jv3 c0 c1 c2 c3 c0_2 c1_2 c2_2 c3_2 →
        ∃ Jv_2 : Prop,
        ( cnd (rb != want2)
           (Jv_2)
           (cnd (rb2 != want2)
             (Jv_2)
             (Ok86 ra ra_2 ra_3 ra_4 c0 c1 c2 c3 (fun r5 =>
             cnd (!r5)
               (Jv_2)
               (Ok86 ra_5 ra_6 ra_7 ra_8 c0_2 c1_2 c2_2 c3_2 (fun r6 =>
               cnd (!r6)
                 (Jv_2)
                 (Ok73 r3 r_2 g edgesV (fun r7 =>
                 cnd (!r7)
                   (R false)
                   (∃ Jv_3 : Prop,
                   ( cnd (!r4)
                      (cnd (rc != (1 : Int))
                        (R false)
                        (cnd (rb3 != (0 : Int))
                          (R false)
                          (cnd (((ra_9.length : Nat) : Int) != (0 : Int))
                            (R false)
                            (Jv_3))))
                      (Jv_3)) ∧
                   (Jv_3 →
                   ∃ Jv4 : Prop,
                   ( cnd r4
                      (Ok36 g edgesV ([] : List Bool) true ([] : List Bool) true (fun ra_10 rb4 =>
                      ∃ Jv_4 : Prop,
                      ( cnd (rc != (0 : Int))
                         (Jv_4)
                         (cnd (rb3 != rb4)
                           (Jv_4)
                           (Ok68 ra_9 ra_10 (fun r8 =>
                           cnd (!r8)
                             (R false)
                             (Jv4))))) ∧
                      (Jv_4 →
                      R false)))
                      (Jv4)) ∧
                   (Jv4 →
                   Ok70 y y_2 ([ra, ra_2, ra_3, ra_5, ra_6, ra_7, ra_8, ra_9] : List (List Int)) (fun lV1 sizeV2 =>
                   Ok87 r3 r_2 s c0 c1 c2 c3 (fun r9 =>
                   cnd (!r9)
                     (R false)
                     (Iv (IntKind.i64.wrap (turn + (1 : Int))) lV1 sizeV2 ∧ m (IntKind.i64.wrap (turn + (1 : Int))) lV1 sizeV2 < m turn y y_2)))))))))))))) ∧
        (Jv_2 →
        R false)))))
        (Ok72 y y_2 (fun lV1_2 sizeV2_2 r10 =>
        R r10))))))))
theorem ok15 {g edgesV s} {R : Bool → Prop} (T : T15 g edgesV s R) : Ok15 g edgesV s R := by
  intro h gA gL gC H
  have Y : Sy h [] h _ := Sy.startM H rfl
  obtain rfl := Y.lenV 0 rfl
  apply calls15
  unfold S15
  unfold T15 at T
  intro hv
  have Y : Sy _ _ hv [_, _] := Y.junk _
  clear_value hv
  refine callX_sy (T _ (Hp.nil _)) (fun _ _ ⟨_, p, _⟩ => p.fr) (allc (fun h => by cases h) alln) ?_
  rintro v hv2 ⟨r, PP, rfl, T⟩
  have Y : Sy _ _ hv2 [_, _] := Y.gr PP.fr
  clear PP
  refine ⟨r, rfl, ?_⟩
  refine cnd_imp T (fun T => ?_) (fun T => ?_)
  · exact ⟨_, Y.pick [] rfl, rfl, T⟩
  · refine callX_sy (T _ _ _ _ (Y.pick [0] rfl).hp) (fun _ _ ⟨_, p, _⟩ => p.fr) (allc (fun h => by cases h) alln) ?_
    rintro v2 hv3 ⟨r2, PP, rfl, T⟩
    have Y : Sy _ _ hv3 [_, _] := Y.gr PP.fr
    clear PP
    refine ⟨r2, rfl, ?_⟩
    refine cnd_imp T (fun T => ?_) (fun T => ?_)
    · exact ⟨_, Y.pick [] rfl, rfl, T⟩
    · refine callX_sy (T _ _ _ _ (Y.pick [0] rfl).hp) (fun _ _ ⟨_, _, _, _, _, p, _⟩ => p.fr) (allc (fun h => by cases h) alln) ?_
      rintro v3 hv4 ⟨r3, rA, rL, rC, r_2, PP, rfl, T⟩
      have Y : Sy _ _ hv4 [_, _, _] := Y.callV PP ⟨rfl, trivial⟩
      clear PP
      obtain rfl := Y.lenM 2 rfl
      refine ⟨r3, _, _, _, rfl, ?_⟩
      intro hv5
      have Y : Sy _ _ hv5 [_, _, _, _] := Y.junk _
      clear_value hv5
      intro hv6
      have Y : Sy _ _ hv6 [_, _, _, _] := ((Y.stJ 3 rfl _ _).stJ 3 rfl _ _)
      clear_value hv6
      intro hv7
      have Y : Sy _ _ hv7 [_, _, _, _, _] := Y.newO _
      clear_value hv7
      refine callX_sy (T _ _ _ _ (Y.pick [0] rfl).hp) (fun _ _ ⟨_, p, _⟩ => p.fr) (allc (fun h => by cases h) (allc (fun h => by cases h) alln)) ?_
      rintro v4 hv8 ⟨r4, PP, rfl, T⟩
      have Y : Sy _ _ hv8 [_, _, _, _, _] := Y.gr PP.fr
      clear PP
      refine ⟨r4, rfl, ?_⟩
      obtain ⟨Jv, T0, T1⟩ := T
      obtain ⟨B, hB, _⟩ := Y.cut [] [0, 1, 2, 3, 4] rfl
      refine ⟨fun lz h' => ∃ (want2 : Int), lz = [.int .i64 want2] ∧ Sy h [] h' ([] ++ B) ∧ Jv want2, ?_, ?_⟩
      · subst hB
        replace T := T0
        clear T0 T1
        refine cnd_imp T (fun T => ?_) (fun T => ?_)
        · exact ⟨_, rfl, Y.pick [0, 1, 2, 3, 4] rfl, T⟩
        · refine cnd_imp T (fun T => ?_) (fun T => ?_)
          · exact ⟨_, rfl, Y.pick [0, 1, 2, 3, 4] rfl, T⟩
          · obtain ⟨Jv2, T0, T1⟩ := T
            obtain ⟨B_2, hB_2, _⟩ := Y.cut [] [0, 1, 2, 3, 4] rfl
            refine ⟨fun lz h' => ∃ (want : Int), lz = [.int .i64 want] ∧ Sy h [] h' ([] ++ B_2) ∧ Jv2 want, ?_, ?_⟩
            · subst hB_2
              replace T := T0
              clear T0 T1
              refine cnd_imp T (fun T => ?_) (fun T => ?_)
              · exact ⟨_, rfl, Y.pick [0, 1, 2, 3, 4] rfl, T⟩
              · exact ⟨_, rfl, Y.pick [0, 1, 2, 3, 4] rfl, T⟩
            · subst hB_2
              clear T0 Y
              rintro want hv9 ⟨want, e, Y, T⟩
              cases e
              replace T := T1 want T
              have Y : Sy _ _ _ [_, _, _, _, _] := Y
              exact ⟨_, rfl, Y.pick [0, 1, 2, 3, 4] rfl, T⟩
      · subst hB
        clear T0 Y
        rintro want2 hv10 ⟨want2, e, Y, T⟩
        cases e
        replace T := T1 want2 T
        have Y : Sy _ _ _ [_, _, _, _, _] := Y
        have Y : Sy _ _ _ [_, _, _, _, _, _] := Y.nilR eI 40 3
        obtain ⟨Iv, m, T0, T1⟩ := T
        obtain ⟨B_3, hB_3, YB⟩ := Y.cut [4, 5] [0, 1, 2, 3] rfl
        obtain ⟨F, hF⟩ := Y.fnO (k := 4) [0, 1] rfl
        obtain ⟨JJ, hJJ⟩ : ∃ JJ : Nat → List Value → Heap → Prop, JJ = (fun k lz h' => ∃ (turn : Int) (cA : Option Addr) (cL cC : Nat) (yH : List RowH) (y : List (List Int)) (y_2 : Int), lz = [.int .i64 turn] ∧ Sy h [] h' ([F [.slice cA cL cC, .int .i64 y_2], Ck.rows eI 40 3 cA cL cC yH y] ++ B_3) ∧ Iv turn y y_2 ∧ m turn y y_2 = k) := ⟨_, rfl⟩
        refine ⟨fun lz h' => ∃ k, JJ k lz h', Lm JJ, ?_, ?_⟩
        · subst hJJ hB_3 hF
          exact ⟨_, _, _, _, _, _, _, _, rfl, YB, T0, rfl⟩
        · clear YB T0 Y
          intro turn hv11 hI
          obtain ⟨k, hI, hm⟩ := loopIn hI
          subst hJJ hB_3 hF
          obtain ⟨turn, cA, cL, cC, yH, y, y_2, e, Y, T, rfl⟩ := hI
          cases e
          obtain rfl := Y.lenR 1 rfl
          replace T := T1 turn y y_2 T
          have Y : Sy _ _ _ [_, _, _, _, _, _] := Y
          refine cnd_imp T (fun T => ?_) (fun T => ?_)
          · refine callX_sy (T _ _ _ _ ((Y.turn 4 rfl To.slmvw).pick [4] rfl).hp) (fun _ _ ⟨_, _, _, _, _, _, _, _, _, _, _, _, _, _, _, _, _, p, _⟩ => p.fr) (allc (fun h => by cases h) (allc (fun h => by cases h) alln)) ?_
            rintro v5 hv12 ⟨raA, raL, raC, ra, raA2, raL2, raC2, ra_2, raA3, raL3, raC3, ra_3, raA4, raL4, raC4, ra_4, rb, PP, rfl, T⟩
            have Y : Sy _ _ hv12 [_, _, _, _, _, _, _, _, _, _] := Y.callV PP ⟨rfl, ⟨rfl, ⟨rfl, ⟨rfl, trivial⟩⟩⟩⟩
            clear PP
            obtain rfl := Y.lenS 6 rfl
            obtain rfl := Y.lenS 7 rfl
            obtain rfl := Y.lenS 8 rfl
            obtain rfl := Y.lenS 9 rfl
            refine ⟨_, _, _, _, _, _, _, _, _, _, _, _, rb, rfl, ?_⟩
            intro hv13
            have Y : Sy _ _ hv13 [_, _, _, _, _, _, _, _, _, _, _] := Y.junk _
            clear_value hv13
            intro hv14
            have Y : Sy _ _ hv14 [_, _, _, _, _, _, _, _, _, _, _] := ((((Y.stJ 10 rfl _ _).stJ 10 rfl _ _).stJ 10 rfl _ _).stJ 10 rfl _ _)
            clear_value hv14
            refine callX_sy (T _ _ _ _ ((Y.turn 4 rfl To.slmvw).pick [4] rfl).hp) (fun _ _ ⟨_, _, _, _, _, _, _, _, _, _, _, _, _, _, _, _, _, p, _⟩ => p.fr) (allc (fun h => by cases h) (allc (fun h => by cases h) (allc (fun h => by cases h) alln))) ?_
            rintro v6 hv15 ⟨raA5, raL5, raC5, ra_5, raA6, raL6, raC6, ra_6, raA7, raL7, raC7, ra_7, raA8, raL8, raC8, ra_8, rb2, PP, rfl, T⟩
            have Y : Sy _ _ hv15 [_, _, _, _, _, _, _, _, _, _, _, _, _, _, _] := Y.callV PP ⟨rfl, ⟨rfl, ⟨rfl, ⟨rfl, trivial⟩⟩⟩⟩
            clear PP
            obtain rfl := Y.lenS 11 rfl
            obtain rfl := Y.lenS 12 rfl
            obtain rfl := Y.lenS 13 rfl
            obtain rfl := Y.lenS 14 rfl
            refine ⟨_, _, _, _, _, _, _, _, _, _, _, _, rb2, rfl, ?_⟩
            intro hv16
            have Y : Sy _ _ hv16 [_, _, _, _, _, _, _, _, _, _, _, _, _, _, _, _] := Y.junk _
            clear_value hv16
            intro hv17
            have Y : Sy _ _ hv17 [_, _, _, _, _, _, _, _, _, _, _, _, _, _, _, _] := ((((Y.stJ 15 rfl _ _).stJ 15 rfl _ _).stJ 15 rfl _ _).stJ 15 rfl _ _)
            clear_value hv17
            refine callX_sy (T _ _ _ _ ((Y.turn 4 rfl To.slmvw).pick [4] rfl).hp) (fun _ _ ⟨_, _, _, _, _, _, p, _⟩ => p.fr) (allc (fun h => by cases h) (allc (fun h => by cases h) (allc (fun h => by cases h) (allc (fun h => by cases h) alln)))) ?_
            rintro v7 hv18 ⟨raA9, raL9, raC9, ra_9, rb3, rc, PP, rfl, T⟩
            have Y : Sy _ _ hv18 [_, _, _, _, _, _, _, _, _, _, _, _, _, _, _, _, _] := Y.callV PP ⟨rfl, trivial⟩
            clear PP
            obtain rfl := Y.lenS 16 rfl
            refine ⟨_, _, _, rb3, rc, rfl, ?_⟩
            intro hv19
            have Y : Sy _ _ hv19 [_, _, _, _, _, _, _, _, _, _, _, _, _, _, _, _, _, _] := Y.junk _
            clear_value hv19
            intro hv20
            have Y : Sy _ _ hv20 [_, _, _, _, _, _, _, _, _, _, _, _, _, _, _, _, _, _, _] := Y.junk _
            clear_value hv20
            obtain ⟨Jv3, T0, T1⟩ := T
            obtain ⟨B_4, hB_4, _⟩ := Y.cut [] [0, 1, 2, 3, 4, 5, 6, 7, 8, 9, 10, 11, 12, 13, 14, 15, 16, 17, 18] rfl
            refine ⟨fun lz h' => ∃ (c0A : Option Addr) (c0L c0C : Nat) (c0 : List Int) (c1A : Option Addr) (c1L c1C : Nat) (c1 : List Int) (c2A : Option Addr) (c2L c2C : Nat) (c2 : List Int) (c3A : Option Addr) (c3L c3C : Nat) (c3 : List Int) (c0A2 : Option Addr) (c0L2 c0C2 : Nat) (c0_2 : List Int) (c1A2 : Option Addr) (c1L2 c1C2 : Nat) (c1_2 : List Int) (c2A2 : Option Addr) (c2L2 c2C2 : Nat) (c2_2 : List Int) (c3A2 : Option Addr) (c3L2 c3C2 : Nat) (c3_2 : List Int), lz = [.slice c0A c0L c0C, .slice c1A c1L c1C, .slice c2A c2L c2C, .slice c3A c3L c3C, .slice c0A2 c0L2 c0C2, .slice c1A2 c1L2 c1C2, .slice c2A2 c2L2 c2C2, .slice c3A2 c3L2 c3C2] ∧ Sy h [] h' ([Ck.sl eI 3 c0A c0L c0C c0, Ck.sl eI 3 c1A c1L c1C c1, Ck.sl eI 3 c2A c2L c2C c2, Ck.sl eI 3 c3A c3L c3C c3, Ck.sl eI 3 c0A2 c0L2 c0C2 c0_2, Ck.sl eI 3 c1A2 c1L2 c1C2 c1_2, Ck.sl eI 3 c2A2 c2L2 c2C2 c2_2, Ck.sl eI 3 c3A2 c3L2 c3C2 c3_2] ++ B_4) ∧ Jv3 c0 c1 c2 c3 c0_2 c1_2 c2_2 c3_2, ?_, ?_⟩
            · subst hB_4
              replace T := T0
              clear T0 T1
              refine cnd_imp T (fun T => ?_) (fun T => ?_)
              · have Y0 := Y
                have F : Fr [] hv20 hv20 := Fr.refl _ _
                refine callX_sy (T _ _ _ _ (Y.pick [2] rfl).hp) (fun _ _ ⟨_, _, _, _, _, _, _, _, _, _, _, _, _, _, _, _, p, _⟩ => p.fr) (allc (fun h => by cases h) (allc (fun h => by cases h) (allc (fun h => by cases h) (allc (fun h => by cases h) (allc (fun h => by cases h) (allc (fun h => by cases h) alln)))))) ?_
                rintro v8 hv21 ⟨rA2, rL2, rC2, r_3, rA3, rL3, rC3, r_4, rA4, rL4, rC4, r_5, rA5, rL5, rC5, r_6, PP, rfl, T⟩
                have F : Fr _ _ hv21 := F.trans PP.fr.nil
                have fshv21 := F.size
                have Y : Sy _ _ hv21 [_, _, _, _, _, _, _, _, _, _, _, _, _, _, _, _, _, _, _, _, _, _, _] := Y.callV PP ⟨rfl, ⟨rfl, ⟨rfl, ⟨rfl, trivial⟩⟩⟩⟩
                clear PP
                obtain rfl := Y.lenS 19 rfl
                obtain rfl := Y.lenS 20 rfl
                obtain rfl := Y.lenS 21 rfl
                obtain rfl := Y.lenS 22 rfl
                refine ⟨_, _, _, _, _, _, _, _, _, _, _, _, rfl, ?_⟩
                refine ⟨F, ?_⟩
                refine callX_sy (T _ _ _ _ (Y.pick [2] rfl).hp) (fun _ _ ⟨_, _, _, _, _, _, _, _, _, _, _, _, _, _, _, _, p, _⟩ => p.fr) (allc (fun h => by cases h) (allc (fun h => by cases h) (allc (fun h => by cases h) (allc (fun h => by cases h) (allc (fun h => by cases h) (allc (fun h => by cases h) alln)))))) ?_
                rintro v9 hv22 ⟨rA6, rL6, rC6, r_7, rA7, rL7, rC7, r_8, rA8, rL8, rC8, r_9, rA9, rL9, rC9, r_10, PP, rfl, T⟩
                have F : Fr _ _ hv22 := F.trans PP.fr.nil
                have fshv22 := F.size
                have Y : Sy _ _ hv22 [_, _, _, _, _, _, _, _, _, _, _, _, _, _, _, _, _, _, _, _, _, _, _, _, _, _, _] := Y.callV PP ⟨rfl, ⟨rfl, ⟨rfl, ⟨rfl, trivial⟩⟩⟩⟩
                clear PP
                obtain rfl := Y.lenS 23 rfl
                obtain rfl := Y.lenS 24 rfl
                obtain rfl := Y.lenS 25 rfl
                obtain rfl := Y.lenS 26 rfl
                refine ⟨_, _, _, _, _, _, _, _, _, _, _, _, rfl, ?_⟩
                refine ⟨F, ?_⟩
                intro hv23
                have Y : Sy _ _ hv23 [_, _, _, _, _, _, _, _, _, _, _, _, _, _, _, _, _, _, _, _, _, _, _, _, _, _, _] := ((((Y.stJ 17 rfl _ _).stJ 17 rfl _ _).stJ 17 rfl _ _).stJ 17 rfl _ _)
                clear_value hv23
                intro hv24
                have Y : Sy _ _ hv24 [_, _, _, _, _, _, _, _, _, _, _, _, _, _, _, _, _, _, _, _, _, _, _, _, _, _, _] := ((((Y.stJ 18 rfl _ _).stJ 18 rfl _ _).stJ 18 rfl _ _).stJ 18 rfl _ _)
                clear_value hv24
                exact ⟨_, _, _, _, _, _, _, _, _, _, _, _, _, _, _, _, _, _, _, _, _, _, _, _, _, _, _, _, _, _, _, _, rfl, Y.pick [19, 20, 21, 22, 23, 24, 25, 26, 0, 1, 2, 3, 4, 5, 6, 7, 8, 9, 10, 11, 12, 13, 14, 15, 16, 17, 18] rfl, T⟩
              · have Y : Sy _ _ _ [_, _, _, _, _, _, _, _, _, _, _, _, _, _, _, _, _, _, _, _] := Y.nilS eI 3
                have Y : Sy _ _ _ [_, _, _, _, _, _, _, _, _, _, _, _, _, _, _, _, _, _, _, _, _] := Y.nilS eI 3
                have Y : Sy _ _ _ [_, _, _, _, _, _, _, _, _, _, _, _, _, _, _, _, _, _, _, _, _, _] := Y.nilS eI 3
                have Y : Sy _ _ _ [_, _, _, _, _, _, _, _, _, _, _, _, _, _, _, _, _, _, _, _, _, _, _] := Y.nilS eI 3
                have Y : Sy _ _ _ [_, _, _, _, _, _, _, _, _, _, _, _, _, _, _, _, _, _, _, _, _, _, _, _] := Y.nilS eI 3
                have Y : Sy _ _ _ [_, _, _, _, _, _, _, _, _, _, _, _, _, _, _, _, _, _, _, _, _, _, _, _, _] := Y.nilS eI 3
                have Y : Sy _ _ _ [_, _, _, _, _, _, _, _, _, _, _, _, _, _, _, _, _, _, _, _, _, _, _, _, _, _] := Y.nilS eI 3
                have Y : Sy _ _ _ [_, _, _, _, _, _, _, _, _, _, _, _, _, _, _, _, _, _, _, _, _, _, _, _, _, _, _] := Y.nilS eI 3
                exact ⟨_, _, _, _, _, _, _, _, _, _, _, _, _, _, _, _, _, _, _, _, _, _, _, _, _, _, _, _, _, _, _, _, rfl, Y.pick [19, 20, 21, 22, 23, 24, 25, 26, 0, 1, 2, 3, 4, 5, 6, 7, 8, 9, 10, 11, 12, 13, 14, 15, 16, 17, 18] rfl, T⟩
            · subst hB_4
              clear T0 Y
              rintro c0A c0L c0C c1A c1L c1C c2A c2L c2C c3A c3L c3C c0A2 c0L2 c0C2 c1A2 c1L2 c1C2 c2A2 c2L2 c2C2 c3A2 c3L2 c3C2 hv25 ⟨c0A, c0L, c0C, c0, c1A, c1L, c1C, c1, c2A, c2L, c2C, c2, c3A, c3L, c3C, c3, c0A2, c0L2, c0C2, c0_2, c1A2, c1L2, c1C2, c1_2, c2A2, c2L2, c2C2, c2_2, c3A2, c3L2, c3C2, c3_2, e, Y, T⟩
              cases e
              obtain rfl := Y.lenS 0 rfl
              obtain rfl := Y.lenS 1 rfl
              obtain rfl := Y.lenS 2 rfl
              obtain rfl := Y.lenS 3 rfl
              obtain rfl := Y.lenS 4 rfl
              obtain rfl := Y.lenS 5 rfl
              obtain rfl := Y.lenS 6 rfl
              obtain rfl := Y.lenS 7 rfl
              replace T := T1 c0 c1 c2 c3 c0_2 c1_2 c2_2 c3_2 T
              have Y : Sy _ _ _ [_, _, _, _, _, _, _, _, _, _, _, _, _, _, _, _, _, _, _, _, _, _, _, _, _, _, _] := Y
              obtain ⟨Jv_2, T0, T1⟩ := T
              obtain ⟨B_5, hB_5, _⟩ := Y.cut [] [0, 1, 2, 3, 4, 5, 6, 7, 8, 9, 10, 11, 12, 13, 14, 15, 16, 17, 18, 19, 20, 21, 22, 23, 24, 25, 26] rfl
              intro K
              have hK : ∀  (hv29 : Heap), (Sy h [] hv29 ([] ++ B_5) ∧ Jv_2) → K hv29 := by
                subst hB_5
                clear T0 Y
                rintro hv29 ⟨Y, T⟩
                replace T := T1 T
                have Y : Sy _ _ _ [_, _, _, _, _, _, _, _, _, _, _, _, _, _, _, _, _, _, _, _, _, _, _, _, _, _, _] := Y
                unfold K
                exact ⟨_, Y.pick [] rfl, rfl, T⟩
              subst hB_5
              replace T := T0
              clear T0 T1
              refine cnd_imp T (fun T => ?_) (fun T => ?_)
              · exact hK _ ⟨Y.pick [0, 1, 2, 3, 4, 5, 6, 7, 8, 9, 10, 11, 12, 13, 14, 15, 16, 17, 18, 19, 20, 21, 22, 23, 24, 25, 26] rfl, T⟩
              · refine cnd_imp T (fun T => ?_) (fun T => ?_)
                · exact hK _ ⟨Y.pick [0, 1, 2, 3, 4, 5, 6, 7, 8, 9, 10, 11, 12, 13, 14, 15, 16, 17, 18, 19, 20, 21, 22, 23, 24, 25, 26] rfl, T⟩
                · refine callX_sy (T _ _ _ _ _ _ _ _ _ _ _ _ _ _ _ _ _ _ _ _ _ _ _ _ _ (((((((((Y.turn 14 rfl To.slvw).turn 15 rfl To.slvw).turn 16 rfl To.slvw).turn 17 rfl To.slvw).turn 0 rfl To.slvw).turn 1 rfl To.slvw).turn 2 rfl To.slvw).turn 3 rfl To.slvw).pick [14, 15, 16, 17, 0, 1, 2, 3] rfl).hp) (fun _ _ ⟨_, p, _⟩ => p.fr) (allc (fun h => by cases h) (allc (fun h => by cases h) (allc (fun h => by cases h) (allc (fun h => by cases h) (allc (fun h => by cases h) (allc (fun h => by cases h) alln)))))) ?_
                  rintro v10 hv26 ⟨r5, PP, rfl, T⟩
                  have Y : Sy _ _ hv26 [_, _, _, _, _, _, _, _, _, _, _, _, _, _, _, _, _, _, _, _, _, _, _, _, _, _, _] := Y.gr PP.fr
                  clear PP
                  refine ⟨r5, rfl, ?_⟩
                  refine cnd_imp T (fun T => ?_) (fun T => ?_)
                  · exact hK _ ⟨Y.pick [0, 1, 2, 3, 4, 5, 6, 7, 8, 9, 10, 11, 12, 13, 14, 15, 16, 17, 18, 19, 20, 21, 22, 23, 24, 25, 26] rfl, T⟩
                  · refine callX_sy (T _ _ _ _ _ _ _ _ _ _ _ _ _ _ _ _ _ _ _ _ _ _ _ _ _ (((((((((Y.turn 19 rfl To.slvw).turn 20 rfl To.slvw).turn 21 rfl To.slvw).turn 22 rfl To.slvw).turn 4 rfl To.slvw).turn 5 rfl To.slvw).turn 6 rfl To.slvw).turn 7 rfl To.slvw).pick [19, 20, 21, 22, 4, 5, 6, 7] rfl).hp) (fun _ _ ⟨_, p, _⟩ => p.fr) (allc (fun h => by cases h) (allc (fun h => by cases h) (allc (fun h => by cases h) (allc (fun h => by cases h) (allc (fun h => by cases h) (allc (fun h => by cases h) alln)))))) ?_
                    rintro v11 hv27 ⟨r6, PP, rfl, T⟩
                    have Y : Sy _ _ hv27 [_, _, _, _, _, _, _, _, _, _, _, _, _, _, _, _, _, _, _, _, _, _, _, _, _, _, _] := Y.gr PP.fr
                    clear PP
                    refine ⟨r6, rfl, ?_⟩
                    refine cnd_imp T (fun T => ?_) (fun T => ?_)
                    · exact hK _ ⟨Y.pick [0, 1, 2, 3, 4, 5, 6, 7, 8, 9, 10, 11, 12, 13, 14, 15, 16, 17, 18, 19, 20, 21, 22, 23, 24, 25, 26] rfl, T⟩
                    · refine callX_sy (T _ _ _ _ _ _ _ ((Y.turn 12 rfl To.slmvwm).pick [12, 10] rfl).hp) (fun _ _ ⟨_, p, _⟩ => p.fr) (allc (fun h => by cases h) (allc (fun h => by cases h) (allc (fun h => by cases h) (allc (fun h => by cases h) (allc (fun h => by cases h) (allc (fun h => by cases h) alln)))))) ?_
                      rintro v12 hv28 ⟨r7, PP, rfl, T⟩
                      have Y : Sy _ _ hv28 [_, _, _, _, _, _, _, _, _, _, _, _, _, _, _, _, _, _, _, _, _, _, _, _, _, _, _] := Y.gr PP.fr
                      clear PP
                      refine ⟨r7, rfl, ?_⟩
                      refine cnd_imp T (fun T => ?_) (fun T => ?_)
                      · exact ⟨_, Y.pick [] rfl, rfl, T⟩
                      · obtain ⟨Jv_3, T0, T1⟩ := T
                        obtain ⟨B_6, hB_6, _⟩ := Y.cut [] [0, 1, 2, 3, 4, 5, 6, 7, 8, 9, 10, 11, 12, 13, 14, 15, 16, 17, 18, 19, 20, 21, 22, 23, 24, 25, 26] rfl
                        intro K2
                        have hK2 : ∀  (hv30 : Heap), (Sy h [] hv30 ([] ++ B_6) ∧ Jv_3) → K2 hv30 := by
                          subst hB_6
                          clear T0 Y
                          rintro hv30 ⟨Y, T⟩
                          replace T := T1 T
                          have Y : Sy _ _ _ [_, _, _, _, _, _, _, _, _, _, _, _, _, _, _, _, _, _, _, _, _, _, _, _, _, _, _] := Y
                          unfold K2
                          obtain ⟨Jv4, T0, T1⟩ := T
                          obtain ⟨B_7, hB_7, _⟩ := Y.cut [] [0, 1, 2, 3, 4, 5, 6, 7, 8, 9, 10, 11, 12, 13, 14, 15, 16, 17, 18, 19, 20, 21, 22, 23, 24, 25, 26] rfl
                          refine ⟨fun lz h' => lz = [] ∧ Sy h [] h' ([] ++ B_7) ∧ Jv4, ?_, ?_⟩
                          · subst hB_7
                            replace T := T0
                            clear T0 T1
                            refine cnd_imp T (fun T => ?_) (fun T => ?_)
                            · have Y : Sy _ _ _ [_, _, _, _, _, _, _, _, _, _, _, _, _, _, _, _, _, _, _, _, _, _, _, _, _, _, _, _] := Y.nilS eB 4
                              have Y : Sy _ _ _ [_, _, _, _, _, _, _, _, _, _, _, _, _, _, _, _, _, _, _, _, _, _, _, _, _, _, _, _, _] := Y.nilS eB 4
                              refine callX_sy (T _ _ _ _ _ _ _ _ _ _ (((Y.turn 27 rfl To.slvw).turn 28 rfl To.slvw).pick [10, 27, 28] rfl).hp rfl rfl) (fun _ _ ⟨_, _, _, _, _, p, _⟩ => p.fr) (allc (fun h => by cases h) (allc (fun h => by cases h) (allc (fun h => by cases h) (allc (fun h => by cases h) (allc (fun h => by cases h) (allc (fun h => by cases h) alln)))))) ?_
                              rintro v13 hv31 ⟨raA10, raL10, raC10, ra_10, rb4, PP, rfl, T⟩
                              have Y : Sy _ _ hv31 [_, _, _, _, _, _, _, _, _, _, _, _, _, _, _, _, _, _, _, _, _, _, _, _, _, _, _, _, _, _] := Y.callV PP ⟨rfl, trivial⟩
                              clear PP
                              obtain rfl := Y.lenS 29 rfl
                              refine ⟨_, _, _, rb4, rfl, ?_⟩
                              obtain ⟨Jv_4, T0, T1⟩ := T
                              obtain ⟨B_8, hB_8, _⟩ := Y.cut [] [0, 1, 2, 3, 4, 5, 6, 7, 8, 9, 10, 11, 12, 13, 14, 15, 16, 17, 18, 19, 20, 21, 22, 23, 24, 25, 26, 27, 28, 29] rfl
                              intro K3
                              have hK3 : ∀  (hv33 : Heap), (Sy h [] hv33 ([] ++ B_8) ∧ Jv_4) → K3 hv33 := by
                                subst hB_8
                                clear T0 Y
                                rintro hv33 ⟨Y, T⟩
                                replace T := T1 T
                                have Y : Sy _ _ _ [_, _, _, _, _, _, _, _, _, _, _, _, _, _, _, _, _, _, _, _, _, _, _, _, _, _, _, _, _, _] := Y
                                unfold K3
                                exact ⟨_, Y.pick [] rfl, rfl, T⟩
                              subst hB_8
                              replace T := T0
                              clear T0 T1
                              refine cnd_imp T (fun T => ?_) (fun T => ?_)
                              · exact hK3 _ ⟨Y.pick [0, 1, 2, 3, 4, 5, 6, 7, 8, 9, 10, 11, 12, 13, 14, 15, 16, 17, 18, 19, 20, 21, 22, 23, 24, 25, 26, 27, 28, 29] rfl, T⟩
                              · refine cnd_imp T (fun T => ?_) (fun T => ?_)
                                · exact hK3 _ ⟨Y.pick [0, 1, 2, 3, 4, 5, 6, 7, 8, 9, 10, 11, 12, 13, 14, 15, 16, 17, 18, 19, 20, 21, 22, 23, 24, 25, 26, 27, 28, 29] rfl, T⟩
                                · refine callX_sy (T _ _ _ _ _ _ _ (((Y.turn 24 rfl To.slvw).turn 29 rfl To.slvw).pick [24, 29] rfl).hp) (fun _ _ ⟨_, p, _⟩ => p.fr) (allc (fun h => by cases h) (allc (fun h => by cases h) (allc (fun h => by cases h) (allc (fun h => by cases h) (allc (fun h => by cases h) (allc (fun h => by cases h) alln)))))) ?_
                                  rintro v14 hv32 ⟨r8, PP, rfl, T⟩
                                  have Y : Sy _ _ hv32 [_, _, _, _, _, _, _, _, _, _, _, _, _, _, _, _, _, _, _, _, _, _, _, _, _, _, _, _, _, _] := Y.gr PP.fr
                                  clear PP
                                  refine ⟨r8, rfl, ?_⟩
                                  refine cnd_imp T (fun T => ?_) (fun T => ?_)
                                  · exact ⟨_, Y.pick [] rfl, rfl, T⟩
                                  · exact ⟨rfl, Y.pick [0, 1, 2, 3, 4, 5, 6, 7, 8, 9, 10, 11, 12, 13, 14, 15, 16, 17, 18, 19, 20, 21, 22, 23, 24, 25, 26] rfl, T⟩
                            · exact ⟨rfl, Y.pick [0, 1, 2, 3, 4, 5, 6, 7, 8, 9, 10, 11, 12, 13, 14, 15, 16, 17, 18, 19, 20, 21, 22, 23, 24, 25, 26] rfl, T⟩
                          · subst hB_7
                            clear T0 Y
                            rintro hv34 ⟨e, Y, T⟩
                            cases e
                            replace T := T1 T
                            have Y : Sy _ _ _ [_, _, _, _, _, _, _, _, _, _, _, _, _, _, _, _, _, _, _, _, _, _, _, _, _, _, _] := Y
                            intro hv35
                            have Y : Sy _ _ hv35 [_, _, _, _, _, _, _, _, _, _, _, _, _, _, _, _, _, _, _, _, _, _, _, _, _, _, _, _] := Y.litG eI 40 3 [⟨raA, ra.length, raC⟩, ⟨raA2, ra_2.length, raC2⟩, ⟨raA3, ra_3.length, raC3⟩, ⟨raA5, ra_5.length, raC5⟩, ⟨raA6, ra_6.length, raC6⟩, ⟨raA7, ra_7.length, raC7⟩, ⟨raA8, ra_8.length, raC8⟩, ⟨raA9, ra_9.length, raC9⟩] [ra, ra_2, ra_3, ra_5, ra_6, ra_7, ra_8, ra_9] rfl rfl (by simp [maxLen])
                            have Y : Sy _ _ hv35 [_, _, _, _, _, _, _, _, _, _, _, _, _, _, _, _, _, _, _, _, _, _, _, _, _, _, _, _] := Y.giveG (P' := Pge 1) 27 14 rfl rfl rfl (i := 0) rfl rfl ge_step
                            have Y : Sy _ _ hv35 [_, _, _, _, _, _, _, _, _, _, _, _, _, _, _, _, _, _, _, _, _, _, _, _, _, _, _, _] := Y.giveG (P' := Pge 2) 27 15 rfl rfl rfl (i := 1) rfl rfl ge_step
                            have Y : Sy _ _ hv35 [_, _, _, _, _, _, _, _, _, _, _, _, _, _, _, _, _, _, _, _, _, _, _, _, _, _, _, _] := Y.giveG (P' := Pge 3) 27 16 rfl rfl rfl (i := 2) rfl rfl ge_step
                            have Y : Sy _ _ hv35 [_, _, _, _, _, _, _, _, _, _, _, _, _, _, _, _, _, _, _, _, _, _, _, _, _, _, _, _] := Y.giveG (P' := Pge 4) 27 19 rfl rfl rfl (i := 3) rfl rfl ge_step
                            have Y : Sy _ _ hv35 [_, _, _, _, _, _, _, _, _, _, _, _, _, _, _, _, _, _, _, _, _, _, _, _, _, _, _, _] := Y.giveG (P' := Pge 5) 27 20 rfl rfl rfl (i := 4) rfl rfl ge_step
                            have Y : Sy _ _ hv35 [_, _, _, _, _, _, _, _, _, _, _, _, _, _, _, _, _, _, _, _, _, _, _, _, _, _, _, _] := Y.giveG (P' := Pge 6) 27 21 rfl rfl rfl (i := 5) rfl rfl ge_step
                            have Y : Sy _ _ hv35 [_, _, _, _, _, _, _, _, _, _, _, _, _, _, _, _, _, _, _, _, _, _, _, _, _, _, _, _] := Y.giveG (P' := Pge 7) 27 22 rfl rfl rfl (i := 6) rfl rfl ge_step
                            have Y : Sy _ _ hv35 [_, _, _, _, _, _, _, _, _, _, _, _, _, _, _, _, _, _, _, _, _, _, _, _, _, _, _, _] := Y.giveG (P' := Pge 8) 27 24 rfl rfl rfl (i := 7) rfl rfl ge_step
                            have Y : Sy _ _ hv35 [_, _, _, _, _, _, _, _, _, _, _, _, _, _, _, _, _, _, _, _, _, _, _, _, _, _, _, _] := Y.turn 27 rfl (To.rowsAll (ge_all (Nat.le_refl _)))
                            clear_value hv35
                            refine callX_sy (T _ _ _ _ _ _ _ _ _ _ (Y.pick [8, 9, 27] rfl).hp) (fun _ _ ⟨_, _, _, _, _, _, p, _⟩ => p.fr) (allc (Y.nO 11 [8, 9, 27] rfl rfl) (allc (Y.nO 13 [8, 9, 27] rfl rfl) (allc (Y.nO 18 [8, 9, 27] rfl rfl) (allc (Y.nO 23 [8, 9, 27] rfl rfl) (allc (Y.nO 25 [8, 9, 27] rfl rfl) alln))))) ?_
                            rintro v15 hv36 ⟨lVA2, lVL2, lVC2, lH2, lV1, sizeV2, PP, rfl, T⟩
                            have Y : Sy _ _ hv36 [_, _, _, _, _, _, _, _, _, _, _, _, _, _, _, _, _, _, _, _, _, _, _, _, _, _, _] := Y.call2 [8, 9, 27, 0, 1, 2, 3, 4, 5, 6, 7, 10, 11, 12, 13, 14, 15, 16, 17, 18, 19, 20, 21, 22, 23, 24, 25, 26] rfl (A := [_, _, _]) rfl rfl PP ⟨rfl, ⟨rfl, trivial⟩⟩
                            clear PP
                            obtain rfl := Y.lenR 1 rfl
                            refine ⟨rfl, ?_⟩
                            refine callX_sy (T _ _ _ _ _ _ _ _ _ _ _ _ _ _ _ _ ((((((Y.turn 12 rfl To.slmvw).turn 2 rfl To.slvw).turn 3 rfl To.slvw).turn 4 rfl To.slvw).turn 5 rfl To.slvw).pick [12, 2, 3, 4, 5] rfl).hp) (fun _ _ ⟨_, p, _⟩ => p.fr) (allc (fun h => by cases h) (allc (fun h => by cases h) (allc (fun h => by cases h) (allc (fun h => by cases h) (allc (fun h => by cases h) alln))))) ?_
                            rintro v16 hv37 ⟨r9, PP, rfl, T⟩
                            have Y : Sy _ _ hv37 [_, _, _, _, _, _, _, _, _, _, _, _, _, _, _, _, _, _, _, _, _, _, _, _, _, _, _] := Y.gr PP.fr
                            clear PP
                            refine ⟨r9, rfl, ?_⟩
                            refine cnd_imp T (fun T => ?_) (fun T => ?_)
                            · exact ⟨_, Y.pick [] rfl, rfl, T⟩
                            · exact loopBack hm ⟨_, _, _, _, _, _, _, rfl, Y.pick [0, 1, 10, 11, 12, 13] rfl, T.1, rfl⟩ T.2
                        subst hB_6
                        replace T := T0
                        clear T0 T1
                        refine cnd_imp T (fun T => ?_) (fun T => ?_)
                        · refine cnd_imp T (fun T => ?_) (fun T => ?_)
                          · exact ⟨_, Y.pick [] rfl, rfl, T⟩
                          · refine cnd_imp T (fun T => ?_) (fun T => ?_)
                            · exact ⟨_, Y.pick [] rfl, rfl, T⟩
                            · refine cnd_imp T (fun T => ?_) (fun T => ?_)
                              · exact ⟨_, Y.pick [] rfl, rfl, T⟩
                              · exact hK2 _ ⟨Y.pick [0, 1, 2, 3, 4, 5, 6, 7, 8, 9, 10, 11, 12, 13, 14, 15, 16, 17, 18, 19, 20, 21, 22, 23, 24, 25, 26] rfl, T⟩
                        · exact hK2 _ ⟨Y.pick [0, 1, 2, 3, 4, 5, 6, 7, 8, 9, 10, 11, 12, 13, 14, 15, 16, 17, 18, 19, 20, 21, 22, 23, 24, 25, 26] rfl, T⟩
          · refine callX_sy (T _ _ _ _ _ _ (Y.pick [0, 1] rfl).hp) (fun _ _ ⟨_, _, _, _, _, _, _, p, _⟩ => p.fr) (allc (Y.nO 3 [0, 1] rfl rfl) (allc (Y.nO 5 [0, 1] rfl rfl) alln)) ?_
            rintro v17 hv38 ⟨lVA2_2, lVL2_2, lVC2_2, lH2_2, lV1_2, sizeV2_2, r10, PP, rfl, T⟩
            have Y : Sy _ _ hv38 [_, _, _, _, _, _] := Y.call2 [0, 1, 2, 3, 4, 5] rfl (A := [_, _]) rfl rfl PP ⟨rfl, ⟨rfl, trivial⟩⟩
            clear PP
            obtain rfl := Y.lenR 1 rfl
            refine ⟨r10, rfl, ?_⟩
            exact ⟨_, Y.pick [] rfl, rfl, T⟩
end Go.Proofs.Ytmcloipjlihhlaa.N
