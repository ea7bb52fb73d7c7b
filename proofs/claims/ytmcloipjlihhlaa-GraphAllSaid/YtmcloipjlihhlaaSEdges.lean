/- What is left to be shown of some functions: printed by program out of the loaded functions; tied to them by the kernel. Conditions: none. -/
import Derived.Test.YtmcloipjlihhlaaSEnv
namespace Go.Proofs.Ytmcloipjlihhlaa
open Go.X
set_option maxRecDepth 100000
set_option linter.unusedVariables false

/-- (*tracery/tracerylaw4.run).edges -/
def S194 (rP : Option Addr) (v : Int) (h : Heap) (R : Value → Heap → Prop) : Prop :=
  let hv : Heap := h.push (.cells #[.bool false] 4)
  ∃ b o, rP = some ⟨b, o, none⟩ ∧ ∃ xP : Option Addr, hcell hv b o = some (.pointer xP) ∧ callX Try.prog 100 #[.pointer xP, .int .i64 v] hv [] fun v2 hv2 =>
  ∃ (rF : Fn) (rX rY : Array Value), v2 = .func rF rX rY ∧
  cnd false
    ((∃ u, hcell hv2 h.size 0 = some u) ∧ hfree hv2 h.size 0 = true ∧ let hv3 : Heap := hset hv2 h.size 0 (.bool false)
    ∀ hz : Heap, Shut h.size hv3 hz → ∃ x : Bool, hcell hz h.size 0 = some (.bool x) ∧ R (.bool x) hz)
    (∃ b2 o2, rP = some ⟨b2, o2, none⟩ ∧ ∃ xP2 : Option Addr, hcell hv2 b2 (o2 + 1) = some (.pointer xP2) ∧ callX Try.prog 222 #[.pointer xP2, .int .i64 v] hv2 [] fun v3 hv4 =>
    ∃ (rA : Option Addr) (rL rC : Nat), v3 = .slice rA rL rC ∧
    let hv5 : Heap := hv4.push (.cells #[.slice none 0 0] 40)
    (∃ u, hcell hv5 hv4.size 0 = some u) ∧ hfree hv5 hv4.size 0 = true ∧ let hv6 : Heap := hset hv5 hv4.size 0 (.slice rA rL rC)
    let hv7 : Heap := hv6.push (.cells #[.int .i64 0] 3)
    (∃ u, hcell hv7 hv6.size 0 = some u) ∧ hfree hv7 hv6.size 0 = true ∧ let hv8 : Heap := hset hv7 hv6.size 0 (.int .i64 0)
    ∃ (Iv : List Value → Heap → Prop) (m : List Value → Heap → Nat), Iv [.pointer (some (⟨hv6.size, 0, none⟩ : Addr))] hv8 ∧ -- loop 0: ['turn'] []
    ∀ turnP : Option Addr, ∀ hv9, Iv [.pointer turnP] hv9 →
    ∃ b3 o3, turnP = some ⟨b3, o3, none⟩ ∧ ∃ x2 : Int, hcell hv9 b3 o3 = some (.int .i64 x2) ∧ cnd (decide (x2 < (2 : Int)))
      (let hv10 : Heap := hv9.push (.cells #[.int .i64 0] 3)
      (∃ u, hcell hv10 hv9.size 0 = some u) ∧ hfree hv10 hv9.size 0 = true ∧ let hv11 : Heap := hset hv10 hv9.size 0 (.int .i64 0)
      ∃ (gf : Nat) (lb : Array Value), (.func rF rX rY : Value) = .func (.func gf) #[] lb ∧ mem fnsX gf = true ∧ -- range 2
      ∃ (xs : List (List Value)) (Mv : List Nat) (Iv2 : Option Nat → Heap → Prop), (∀ x ∈ xs, ∀ K, shAll [.int .i64] K → K x) ∧ IterH Try.prog gf lb xs Mv hv11 ∧ Iv2 (some 0) hv11 ∧
      (∀ (i : Option Nat) (j : Nat) (h1 hv12 : Heap), (∀ m, i = some m → m < xs.length) → Iv2 i h1 → h1.size = hv11.size → Fr [] h1 hv12 →
        ∀ ev : Int, xs[j]? = some [.int .i64 ev] →
          ∃ x3 : Int, hcell hv12 hv9.size 0 = some (.int .i64 x3) ∧ ∃ (xA : Option Addr) (xL xC : Nat), hcell hv12 hv4.size 0 = some (.slice xA xL xC) ∧ cnd (decide (x3 ≥ ((xL : Nat) : Int)))
            ((∃ u, hcell hv12 h.size 0 = some u) ∧ hfree hv12 h.size 0 = true ∧ let hv13 : Heap := hset hv12 h.size 0 (.bool false)
             ∃ h2 : Heap, h2.size = hv11.size ∧ Fr [] h2 hv13 ∧ (i = some j → ∀ hw : Heap, Fr [] h2 hw → ∀ hz2 : Heap, Shut h.size hw hz2 → ∃ x6 : Bool, hcell hz2 h.size 0 = some (.bool x6) ∧ R (.bool x6) hz2))
            (∃ (xA2 : Option Addr) (xL2 xC2 : Nat), hcell hv12 hv4.size 0 = some (.slice xA2 xL2 xC2) ∧ ∃ x4 : Int, hcell hv12 hv9.size 0 = some (.int .i64 x4) ∧ ∃ b4 o4, xA2 = some ⟨b4, o4, none⟩ ∧ 0 ≤ x4 ∧ x4 < (xL2 : Nat) ∧ ∃ x5 : Int, hcell hv12 b4 (o4 + (Int.toNat x4) * 1) = some (.int .i64 x5) ∧ cnd (ev != x5)
               ((∃ u, hcell hv12 h.size 0 = some u) ∧ hfree hv12 h.size 0 = true ∧ let hv14 : Heap := hset hv12 h.size 0 (.bool false)
               ∃ h2_2 : Heap, h2_2.size = hv11.size ∧ Fr [] h2_2 hv14 ∧ (i = some j → ∀ hw2 : Heap, Fr [] h2_2 hw2 → ∀ hz3 : Heap, Shut h.size hw2 hz3 → ∃ x7 : Bool, hcell hz3 h.size 0 = some (.bool x7) ∧ R (.bool x7) hz3))
               (∃ x8 : Int, hcell hv12 hv9.size 0 = some (.int .i64 x8) ∧ (∃ u, hcell hv12 hv9.size 0 = some u) ∧ hfree hv12 hv9.size 0 = true ∧ let hv15 : Heap := hset hv12 hv9.size 0 (.int .i64 (IntKind.i64.wrap (x8 + (1 : Int))))
               ∃ b5 o5, turnP = some ⟨b5, o5, none⟩ ∧ ∃ x9 : Int, hcell hv15 b5 o5 = some (.int .i64 x9) ∧ cnd (x9 == (0 : Int))
                 (∃ x10 : Int, hcell hv15 hv9.size 0 = some (.int .i64 x10) ∧ cnd (x10 == (2 : Int))
                    (∃ h2_3 : Heap, h2_3.size = hv11.size ∧ Fr [] h2_3 hv15 ∧ (i = some j → ∀ hw3 : Heap, Fr [] h2_3 hw3 → ∃ x11 : Int, hcell hw3 hv9.size 0 = some (.int .i64 x11) ∧ ∃ (xA3 : Option Addr) (xL3 xC3 : Nat), hcell hw3 hv4.size 0 = some (.slice xA3 xL3 xC3) ∧ cnd (x11 != ((xL3 : Nat) : Int))
                      (∃ b6 o6, turnP = some ⟨b6, o6, none⟩ ∧ ∃ x12 : Int, hcell hw3 b6 o6 = some (.int .i64 x12) ∧ cnd (decide (x12 > (0 : Int)))
                        ((∃ u, hcell hw3 h.size 0 = some u) ∧ hfree hw3 h.size 0 = true ∧ let hv16 : Heap := hset hw3 h.size 0 (.bool false)
                         ∀ hz4 : Heap, Shut h.size hv16 hz4 → ∃ x14 : Bool, hcell hz4 h.size 0 = some (.bool x14) ∧ R (.bool x14) hz4)
                        (∃ x13 : Int, hcell hw3 hv9.size 0 = some (.int .i64 x13) ∧ cnd (x13 != (2 : Int))
                           ((∃ u, hcell hw3 h.size 0 = some u) ∧ hfree hw3 h.size 0 = true ∧ let hv17 : Heap := hset hw3 h.size 0 (.bool false)
                           ∀ hz5 : Heap, Shut h.size hv17 hz5 → ∃ x15 : Bool, hcell hz5 h.size 0 = some (.bool x15) ∧ R (.bool x15) hz5)
                           (∃ b7 o7, turnP = some ⟨b7, o7, none⟩ ∧ ∃ x16 : Int, hcell hw3 b7 o7 = some (.int .i64 x16) ∧ let hv18 : Heap := hw3.push (.cells #[.int .i64 0] 3)
                           (∃ u, hcell hv18 hw3.size 0 = some u) ∧ hfree hv18 hw3.size 0 = true ∧ let hv19 : Heap := hset hv18 hw3.size 0 (.int .i64 x16)
                           ∃ x17 : Int, hcell hv19 hw3.size 0 = some (.int .i64 x17) ∧ (∃ u, hcell hv19 hw3.size 0 = some u) ∧ hfree hv19 hw3.size 0 = true ∧ let hv20 : Heap := hset hv19 hw3.size 0 (.int .i64 (IntKind.i64.wrap (x17 + (1 : Int))))
                           Iv [.pointer (some (⟨hw3.size, 0, none⟩ : Addr))] hv20 ∧ m [.pointer (some (⟨hw3.size, 0, none⟩ : Addr))] hv20 < m [.pointer turnP] hv9)))
                      (∃ b8 o8, turnP = some ⟨b8, o8, none⟩ ∧ ∃ x18 : Int, hcell hw3 b8 o8 = some (.int .i64 x18) ∧ let hv21 : Heap := hw3.push (.cells #[.int .i64 0] 3)
                       (∃ u, hcell hv21 hw3.size 0 = some u) ∧ hfree hv21 hw3.size 0 = true ∧ let hv22 : Heap := hset hv21 hw3.size 0 (.int .i64 x18)
                       ∃ x19 : Int, hcell hv22 hw3.size 0 = some (.int .i64 x19) ∧ (∃ u, hcell hv22 hw3.size 0 = some u) ∧ hfree hv22 hw3.size 0 = true ∧ let hv23 : Heap := hset hv22 hw3.size 0 (.int .i64 (IntKind.i64.wrap (x19 + (1 : Int))))
                       Iv [.pointer (some (⟨hw3.size, 0, none⟩ : Addr))] hv23 ∧ m [.pointer (some (⟨hw3.size, 0, none⟩ : Addr))] hv23 < m [.pointer turnP] hv9)))
                    (Fr Mv hv12 hv15 ∧ ∃ h2_4 : Heap, h2_4.size = hv11.size ∧ Fr [] h2_4 hv15 ∧ Iv2 (nxt i j) h2_4))
                 (Fr Mv hv12 hv15 ∧ ∃ h2_5 : Heap, h2_5.size = hv11.size ∧ Fr [] h2_5 hv15 ∧ Iv2 (nxt i j) h2_5)))) ∧
      ∀ (h1_2 hv24 : Heap), Iv2 (some xs.length) h1_2 → h1_2.size = hv11.size → Fr [] h1_2 hv24 →
      ∃ x20 : Int, hcell hv24 hv9.size 0 = some (.int .i64 x20) ∧ ∃ (xA4 : Option Addr) (xL4 xC4 : Nat), hcell hv24 hv4.size 0 = some (.slice xA4 xL4 xC4) ∧ cnd (x20 != ((xL4 : Nat) : Int))
        (∃ b9 o9, turnP = some ⟨b9, o9, none⟩ ∧ ∃ x21 : Int, hcell hv24 b9 o9 = some (.int .i64 x21) ∧ cnd (decide (x21 > (0 : Int)))
          ((∃ u, hcell hv24 h.size 0 = some u) ∧ hfree hv24 h.size 0 = true ∧ let hv25 : Heap := hset hv24 h.size 0 (.bool false)
           ∀ hz6 : Heap, Shut h.size hv25 hz6 → ∃ x23 : Bool, hcell hz6 h.size 0 = some (.bool x23) ∧ R (.bool x23) hz6)
          (∃ x22 : Int, hcell hv24 hv9.size 0 = some (.int .i64 x22) ∧ cnd (x22 != (2 : Int))
             ((∃ u, hcell hv24 h.size 0 = some u) ∧ hfree hv24 h.size 0 = true ∧ let hv26 : Heap := hset hv24 h.size 0 (.bool false)
             ∀ hz7 : Heap, Shut h.size hv26 hz7 → ∃ x24 : Bool, hcell hz7 h.size 0 = some (.bool x24) ∧ R (.bool x24) hz7)
             (∃ b10 o10, turnP = some ⟨b10, o10, none⟩ ∧ ∃ x25 : Int, hcell hv24 b10 o10 = some (.int .i64 x25) ∧ let hv27 : Heap := hv24.push (.cells #[.int .i64 0] 3)
             (∃ u, hcell hv27 hv24.size 0 = some u) ∧ hfree hv27 hv24.size 0 = true ∧ let hv28 : Heap := hset hv27 hv24.size 0 (.int .i64 x25)
             ∃ x26 : Int, hcell hv28 hv24.size 0 = some (.int .i64 x26) ∧ (∃ u, hcell hv28 hv24.size 0 = some u) ∧ hfree hv28 hv24.size 0 = true ∧ let hv29 : Heap := hset hv28 hv24.size 0 (.int .i64 (IntKind.i64.wrap (x26 + (1 : Int))))
             Iv [.pointer (some (⟨hv24.size, 0, none⟩ : Addr))] hv29 ∧ m [.pointer (some (⟨hv24.size, 0, none⟩ : Addr))] hv29 < m [.pointer turnP] hv9)))
        (∃ b11 o11, turnP = some ⟨b11, o11, none⟩ ∧ ∃ x27 : Int, hcell hv24 b11 o11 = some (.int .i64 x27) ∧ let hv30 : Heap := hv24.push (.cells #[.int .i64 0] 3)
         (∃ u, hcell hv30 hv24.size 0 = some u) ∧ hfree hv30 hv24.size 0 = true ∧ let hv31 : Heap := hset hv30 hv24.size 0 (.int .i64 x27)
         ∃ x28 : Int, hcell hv31 hv24.size 0 = some (.int .i64 x28) ∧ (∃ u, hcell hv31 hv24.size 0 = some u) ∧ hfree hv31 hv24.size 0 = true ∧ let hv32 : Heap := hset hv31 hv24.size 0 (.int .i64 (IntKind.i64.wrap (x28 + (1 : Int))))
         Iv [.pointer (some (⟨hv24.size, 0, none⟩ : Addr))] hv32 ∧ m [.pointer (some (⟨hv24.size, 0, none⟩ : Addr))] hv32 < m [.pointer turnP] hv9))
      ((∃ u, hcell hv9 h.size 0 = some u) ∧ hfree hv9 h.size 0 = true ∧ let hv33 : Heap := hset hv9 h.size 0 (.bool true)
      ∀ hz8 : Heap, Shut h.size hv33 hz8 → ∃ x29 : Bool, hcell hz8 h.size 0 = some (.bool x29) ∧ R (.bool x29) hz8))
theorem calls194 {h : Heap} {R : Value → Heap → Prop} (rP : Option Addr) (v : Int) (H : S194 rP v h R) : CallsH Try.prog 194 #[.pointer rP, .int .i64 v] h R := by
  have e : S194 rP v h R = FXr (envX [] 63) { loops := [(0, ⟨[4, 5, 6], [7], [], []⟩)], joins := [], blocks := [], draws := [], rng := [(2, [.int .i64])] } Try.f194 (Try.f194.body.getD .skip) [.pointer rP, .int .i64 v] h R := by kernel_rfl
  exact calls_of_FXr (envX_ok _ _) Try.func194 (by kernel_rfl) (by kernel_rfl) (by kernel_rfl) (e ▸ H)
end Go.Proofs.Ytmcloipjlihhlaa
