/- What is left to be shown of some functions: printed by program out of the loaded functions; tied to them by the kernel. Conditions: none. -/
import Derived.Test.YtmcloipjlihhlaaSEnv
namespace Go.Proofs.Ytmcloipjlihhlaa
open Go.X
set_option maxRecDepth 100000
set_option linter.unusedVariables false

/-- tracery/tracerylaw4.GraphNone -/
def S22 (o : Int) (o2 : Int) (o3 : Int) (o4 : Int) (h : Heap) (R : Value → Heap → Prop) : Prop :=
  let hv : Heap := h.push (.cells #[.int .i64 o, .int .i64 o2, .int .i64 o3, .int .i64 o4] 130)
  let hv2 : Heap := hv.push (.cells #[.bool false] 4)
  callX Try.prog 74 #[] hv2 [] fun v hv3 =>
  ∃ r : Bool, v = .bool r ∧
  cnd (!r)
    ((∃ u, hcell hv3 hv.size 0 = some u) ∧ hfree hv3 hv.size 0 = true ∧ let hv4 : Heap := hset hv3 hv.size 0 (.bool false)
    ∀ hz : Heap, Shut h.size hv4 hz → ∃ x : Bool, hcell hz hv.size 0 = some (.bool x) ∧ R (.bool x) hz)
    (callX Try.prog 97 #[.pointer none] hv3 [] fun v2 hv5 =>
    ∃ ra : Int, ∃ rb : Int, v2 = .tuple #[.int .i64 ra, .int .i64 rb] ∧
    ∃ x2 : Int, hcell hv5 h.size (0 + 1) = some (.int .i64 x2) ∧ ∃ x3 : Int, hcell hv5 h.size (0 + 2) = some (.int .i64 x3) ∧ callX Try.prog 98 #[.pointer none, .int .i64 x2, .int .i64 x3] hv5 [] fun v3 hv6 =>
    ∃ ra2 : Int, ∃ rb2 : Int, v3 = .tuple #[.int .i64 ra2, .int .i64 rb2] ∧
    ∃ x4 : Int, hcell hv6 h.size (0 + 1) = some (.int .i64 x4) ∧ callX Try.prog 99 #[.pointer none, .int .i64 x4] hv6 [] fun v4 hv7 =>
    ∃ ra3 : Int, ∃ rb3 : Int, v4 = .tuple #[.int .i64 ra3, .int .i64 rb3] ∧
    ∃ x5 : Int, hcell hv7 h.size (0 + 1) = some (.int .i64 x5) ∧ callX Try.prog 77 #[.pointer none, .int .i64 x5] hv7 [] fun v5 hv8 =>
    ∃ ra4 : Int, ∃ rb4 : Int, ∃ rc : Int, v5 = .tuple #[.int .i64 ra4, .int .i64 rb4, .int .i64 rc] ∧
    ∃ x6 : Int, hcell hv8 h.size (0 + 1) = some (.int .i64 x6) ∧ callX Try.prog 78 #[.pointer none, .int .i64 x6] hv8 [] fun v6 hv9 =>
    ∃ ra5 : Int, ∃ rb5 : Int, v6 = .tuple #[.int .i64 ra5, .int .i64 rb5] ∧
    ∃ x7 : Int, hcell hv9 h.size (0 + 1) = some (.int .i64 x7) ∧ callX Try.prog 76 #[.pointer none, .int .i64 x7] hv9 [] fun v7 hv10 =>
    ∃ ra6 : Int, ∃ rb6 : Int, ∃ rc2 : Int, v7 = .tuple #[.int .i64 ra6, .int .i64 rb6, .int .i64 rc2] ∧
    callX Try.prog 79 #[.pointer none] hv10 [] fun v8 hv11 =>
    ∃ ra7 : Int, ∃ (raA : Option Addr) (raL raC : Nat), ∃ (rbA : Option Addr) (rbL rbC : Nat), ∃ (rcA : Option Addr) (rcL rcC : Nat), v8 = .tuple #[.agg #[.int .i64 ra7, .slice raA raL raC], .slice rbA rbL rbC, .slice rcA rcL rcC] ∧
    let hv12 : Heap := hv11.push (.cells #[.int .i64 0, .slice none 0 0] 26)
    (∃ u, hcell hv12 hv11.size 0 = some u) ∧ hfree hv12 hv11.size 0 = true ∧ (∃ u, hcell hv12 hv11.size (0 + 1) = some u) ∧ hfree hv12 hv11.size (0 + 1) = true ∧ let hv13 : Heap := hset (hset hv12 hv11.size 0 (.int .i64 ra7)) hv11.size (0 + 1) (.slice raA raL raC)
    ∃ x8 : Int, hcell hv13 h.size (0 + 1) = some (.int .i64 x8) ∧ callX Try.prog 100 #[.pointer none, .int .i64 x8] hv13 [] fun v9 hv14 =>
    ∃ (rF : Fn) (rX rY : Array Value), v9 = .func rF rX rY ∧
    cnd false
      ((∃ u, hcell hv14 hv.size 0 = some u) ∧ hfree hv14 hv.size 0 = true ∧ let hv15 : Heap := hset hv14 hv.size 0 (.bool false)
      ∀ hz2 : Heap, Shut h.size hv15 hz2 → ∃ x9 : Bool, hcell hz2 hv.size 0 = some (.bool x9) ∧ R (.bool x9) hz2)
      (∃ x10 : Int, hcell hv14 h.size (0 + 1) = some (.int .i64 x10) ∧ callX Try.prog 100 #[.pointer none, .int .i64 x10] hv14 [] fun v10 hv16 =>
      ∃ (rF2 : Fn) (rX2 rY2 : Array Value), v10 = .func rF2 rX2 rY2 ∧
      ∃ (gf : Nat) (lb : Array Value), (.func rF2 rX2 rY2 : Value) = .func (.func gf) #[] lb ∧ mem fnsX gf = true ∧ -- range 0
      ∃ (xs : List (List Value)) (Mv : List Nat) (Iv : Nat → Heap → Prop), (∀ x ∈ xs, ∀ K, shAll [.int .i64] K → K x) ∧ IterH Try.prog gf lb xs Mv hv16 ∧ Iv 0 hv16 ∧
      (∀ (i j : Nat) (h1 hv17 : Heap), i < xs.length → Iv i h1 → h1.size = hv16.size → Fr [] h1 hv17 →
        ∀ v11 : Int, xs[j]? = some [.int .i64 v11] →
          (∃ u, hcell hv17 hv.size 0 = some u) ∧ hfree hv17 hv.size 0 = true ∧ let hv18 : Heap := hset hv17 hv.size 0 (.bool false)
          ∃ h2 : Heap, h2.size = hv16.size ∧ Fr [] h2 hv18 ∧ (j = i → ∀ hw : Heap, Fr [] h2 hw → ∀ hz3 : Heap, Shut h.size hw hz3 → ∃ x11 : Bool, hcell hz3 hv.size 0 = some (.bool x11) ∧ R (.bool x11) hz3)) ∧
      ∀ (h1_2 hv19 : Heap), Iv xs.length h1_2 → h1_2.size = hv16.size → Fr [] h1_2 hv19 →
      ∃ x12 : Int, hcell hv19 hv11.size 0 = some (.int .i64 x12) ∧ ∃ (xA : Option Addr) (xL xC : Nat), hcell hv19 hv11.size (0 + 1) = some (.slice xA xL xC) ∧ callX Try.prog 101 #[.pointer none] hv19 [] fun v12 hv20 =>
      ∃ r2 : Int, v12 = .int .i64 r2 ∧
      Fr [] hv19 hv20 ∧
      cnd ((IntKind.i64.wrap ((IntKind.i64.wrap ((IntKind.i64.wrap ((IntKind.i64.wrap ((IntKind.i64.wrap ((IntKind.i64.wrap ((IntKind.i64.wrap ((IntKind.i64.wrap ((IntKind.i64.wrap ((IntKind.i64.wrap ((IntKind.i64.wrap ((IntKind.i64.wrap (ra + ra2)) + ra3)) + ra4)) + rb4)) + ra5)) + ra6)) + rb6)) + x12)) + ((xL : Nat) : Int))) + ((rbL : Nat) : Int))) + ((rcL : Nat) : Int))) + r2)) == (0 : Int))
        (cnd (rb == (1 : Int))
          (cnd (rb2 == (1 : Int))
            (cnd (rb3 == (1 : Int))
              (cnd (rc == (1 : Int))
                (cnd (rb5 == (1 : Int))
                  (cnd (rc2 == (1 : Int))
                    (∃ x13 : Int, hcell hv19 h.size (0 + 1) = some (.int .i64 x13) ∧ callX Try.prog 102 #[.pointer none, .int .i64 x13] hv20 [] fun v13 hv21 =>
                    ∃ r3 : Int, v13 = .int .i64 r3 ∧
                    Fr [] hv19 hv21 ∧
                    cnd (r3 == (1 : Int))
                      (∃ x14 : Int, hcell hv19 h.size (0 + 1) = some (.int .i64 x14) ∧ ∃ x15 : Int, hcell hv19 h.size (0 + 2) = some (.int .i64 x15) ∧ ∃ x16 : Int, hcell hv19 h.size (0 + 3) = some (.int .i64 x16) ∧ callX Try.prog 103 #[.pointer none, .int .i64 x14, .int .i64 x15, .int .i64 x16] hv21 [] fun v14 hv22 =>
                      ∃ r4 : Int, v14 = .int .i64 r4 ∧
                      Fr [] hv19 hv22 ∧
                      cnd (r4 == (1 : Int))
                        (∃ x17 : Int, hcell hv19 h.size (0 + 1) = some (.int .i64 x17) ∧ callX Try.prog 104 #[.pointer none, .int .i64 x17] hv22 [] fun v15 hv23 =>
                        ∃ r5 : Int, v15 = .int .i64 r5 ∧
                        Fr [] hv19 hv23 ∧
                        cnd (r5 == (1 : Int))
                          (callX Try.prog 105 #[.pointer none] hv23 [] fun v16 hv24 =>
                          ∃ rP : Option Addr, v16 = .pointer rP ∧
                          Fr [] hv19 hv24 ∧
                          (∃ u, hcell hv24 hv.size 0 = some u) ∧ hfree hv24 hv.size 0 = true ∧ let hv25 : Heap := hset hv24 hv.size 0 (.bool (Option.isNone rP))
                          ∀ hz4 : Heap, Shut h.size hv25 hz4 → ∃ x18 : Bool, hcell hz4 hv.size 0 = some (.bool x18) ∧ R (.bool x18) hz4)
                          (Fr [] hv19 hv23 ∧
                          (∃ u, hcell hv23 hv.size 0 = some u) ∧ hfree hv23 hv.size 0 = true ∧ let hv26 : Heap := hset hv23 hv.size 0 (.bool false)
                          ∀ hz5 : Heap, Shut h.size hv26 hz5 → ∃ x19 : Bool, hcell hz5 hv.size 0 = some (.bool x19) ∧ R (.bool x19) hz5))
                        (Fr [] hv19 hv22 ∧
                        Fr [] hv19 hv22 ∧
                        (∃ u, hcell hv22 hv.size 0 = some u) ∧ hfree hv22 hv.size 0 = true ∧ let hv27 : Heap := hset hv22 hv.size 0 (.bool false)
                        ∀ hz6 : Heap, Shut h.size hv27 hz6 → ∃ x20 : Bool, hcell hz6 hv.size 0 = some (.bool x20) ∧ R (.bool x20) hz6))
                      (Fr [] hv19 hv21 ∧
                      Fr [] hv19 hv21 ∧
                      Fr [] hv19 hv21 ∧
                      (∃ u, hcell hv21 hv.size 0 = some u) ∧ hfree hv21 hv.size 0 = true ∧ let hv28 : Heap := hset hv21 hv.size 0 (.bool false)
                      ∀ hz7 : Heap, Shut h.size hv28 hz7 → ∃ x21 : Bool, hcell hz7 hv.size 0 = some (.bool x21) ∧ R (.bool x21) hz7))
                    (Fr [] hv19 hv20 ∧
                    Fr [] hv19 hv20 ∧
                    Fr [] hv19 hv20 ∧
                    Fr [] hv19 hv20 ∧
                    (∃ u, hcell hv20 hv.size 0 = some u) ∧ hfree hv20 hv.size 0 = true ∧ let hv29 : Heap := hset hv20 hv.size 0 (.bool false)
                    ∀ hz8 : Heap, Shut h.size hv29 hz8 → ∃ x22 : Bool, hcell hz8 hv.size 0 = some (.bool x22) ∧ R (.bool x22) hz8))
                  (Fr [] hv19 hv20 ∧
                  Fr [] hv19 hv20 ∧
                  Fr [] hv19 hv20 ∧
                  Fr [] hv19 hv20 ∧
                  (∃ u, hcell hv20 hv.size 0 = some u) ∧ hfree hv20 hv.size 0 = true ∧ let hv30 : Heap := hset hv20 hv.size 0 (.bool false)
                  ∀ hz9 : Heap, Shut h.size hv30 hz9 → ∃ x23 : Bool, hcell hz9 hv.size 0 = some (.bool x23) ∧ R (.bool x23) hz9))
                (Fr [] hv19 hv20 ∧
                Fr [] hv19 hv20 ∧
                Fr [] hv19 hv20 ∧
                Fr [] hv19 hv20 ∧
                (∃ u, hcell hv20 hv.size 0 = some u) ∧ hfree hv20 hv.size 0 = true ∧ let hv31 : Heap := hset hv20 hv.size 0 (.bool false)
                ∀ hz10 : Heap, Shut h.size hv31 hz10 → ∃ x24 : Bool, hcell hz10 hv.size 0 = some (.bool x24) ∧ R (.bool x24) hz10))
              (Fr [] hv19 hv20 ∧
              Fr [] hv19 hv20 ∧
              Fr [] hv19 hv20 ∧
              Fr [] hv19 hv20 ∧
              (∃ u, hcell hv20 hv.size 0 = some u) ∧ hfree hv20 hv.size 0 = true ∧ let hv32 : Heap := hset hv20 hv.size 0 (.bool false)
              ∀ hz11 : Heap, Shut h.size hv32 hz11 → ∃ x25 : Bool, hcell hz11 hv.size 0 = some (.bool x25) ∧ R (.bool x25) hz11))
            (Fr [] hv19 hv20 ∧
            Fr [] hv19 hv20 ∧
            Fr [] hv19 hv20 ∧
            Fr [] hv19 hv20 ∧
            (∃ u, hcell hv20 hv.size 0 = some u) ∧ hfree hv20 hv.size 0 = true ∧ let hv33 : Heap := hset hv20 hv.size 0 (.bool false)
            ∀ hz12 : Heap, Shut h.size hv33 hz12 → ∃ x26 : Bool, hcell hz12 hv.size 0 = some (.bool x26) ∧ R (.bool x26) hz12))
          (Fr [] hv19 hv20 ∧
          Fr [] hv19 hv20 ∧
          Fr [] hv19 hv20 ∧
          Fr [] hv19 hv20 ∧
          (∃ u, hcell hv20 hv.size 0 = some u) ∧ hfree hv20 hv.size 0 = true ∧ let hv34 : Heap := hset hv20 hv.size 0 (.bool false)
          ∀ hz13 : Heap, Shut h.size hv34 hz13 → ∃ x27 : Bool, hcell hz13 hv.size 0 = some (.bool x27) ∧ R (.bool x27) hz13))
        (Fr [] hv19 hv20 ∧
        Fr [] hv19 hv20 ∧
        Fr [] hv19 hv20 ∧
        Fr [] hv19 hv20 ∧
        (∃ u, hcell hv20 hv.size 0 = some u) ∧ hfree hv20 hv.size 0 = true ∧ let hv35 : Heap := hset hv20 hv.size 0 (.bool false)
        ∀ hz14 : Heap, Shut h.size hv35 hz14 → ∃ x28 : Bool, hcell hz14 hv.size 0 = some (.bool x28) ∧ R (.bool x28) hz14)))
theorem calls22 {h : Heap} {R : Value → Heap → Prop} (o : Int) (o2 : Int) (o3 : Int) (o4 : Int) (H : S22 o o2 o3 o4 h R) : CallsH Try.prog 22 #[.agg #[.int .i64 o, .int .i64 o2, .int .i64 o3, .int .i64 o4]] h R := by
  have e : S22 o o2 o3 o4 h R = FXr (envX [] 169) { loops := [], joins := [], blocks := [], draws := [(15, ⟨86, false⟩)], rng := [(0, [.int .i64])] } Try.f22 (Try.f22.body.getD .skip) [.agg #[.int .i64 o, .int .i64 o2, .int .i64 o3, .int .i64 o4]] h R := by kernel_rfl
  exact calls_of_FXr (envX_ok _ _) Try.func22 (by kernel_rfl) (by kernel_rfl) (by kernel_rfl) (e ▸ H)
end Go.Proofs.Ytmcloipjlihhlaa
