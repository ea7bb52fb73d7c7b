/- What is left to be shown of some functions: printed by program out of the loaded functions; tied to them by the kernel. Conditions: none. -/
import Derived.Test.YtmcloipjlihhlaaSEnv
namespace Go.Proofs.Ytmcloipjlihhlaa
open Go.X
set_option maxRecDepth 100000
set_option linter.unusedVariables false

/-- tracery/tracerylaw6.each -/
def S87 (g : Int) (gA : Option Addr) (gL gC : Nat) (s : Int) (tA : Option Addr) (tL tC : Nat) (tA2 : Option Addr) (tL2 tC2 : Nat) (tA3 : Option Addr) (tL3 tC3 : Nat) (tA4 : Option Addr) (tL4 tC4 : Nat) (h : Heap) (R : Value → Heap → Prop) : Prop :=
  let hv : Heap := h.push (.cells #[.int .i64 g, .slice gA gL gC] 26)
  let hv2 : Heap := hv.push (.cells #[.slice tA tL tC, .slice tA2 tL2 tC2, .slice tA3 tL3 tC3, .slice tA4 tL4 tC4] 113)
  let hv3 : Heap := hv2.push (.cells #[.bool false] 4)
  ∃ x : Int, hcell hv3 h.size 0 = some (.int .i64 x) ∧ ∃ (xA : Option Addr) (xL xC : Nat), hcell hv3 h.size (0 + 1) = some (.slice xA xL xC) ∧ callX Try.prog 173 #[.agg #[.int .i64 x, .slice xA xL xC], .int .i64 s] hv3 [] fun v hv4 =>
  ∃ (rF : Fn) (rX rY : Array Value), v = .func rF rX rY ∧
  cnd false
    ((∃ u, hcell hv4 hv2.size 0 = some u) ∧ hfree hv4 hv2.size 0 = true ∧ let hv5 : Heap := hset hv4 hv2.size 0 (.bool false)
    ∀ hz : Heap, Shut h.size hv5 hz → ∃ x2 : Bool, hcell hz hv2.size 0 = some (.bool x2) ∧ R (.bool x2) hz)
    (let hv6 : Heap := hv4.push (.cells #[.int .i64 0] 3)
    (∃ u, hcell hv6 hv4.size 0 = some u) ∧ hfree hv6 hv4.size 0 = true ∧ let hv7 : Heap := hset hv6 hv4.size 0 (.int .i64 0)
    ∃ (Iv : List Value → Heap → Prop) (m : List Value → Heap → Nat), Iv [.pointer (some (⟨hv4.size, 0, none⟩ : Addr))] hv7 ∧ -- loop 0: ['turn'] []
    ∀ turnP : Option Addr, ∀ hv8, Iv [.pointer turnP] hv8 →
    ∃ b o, turnP = some ⟨b, o, none⟩ ∧ ∃ x3 : Int, hcell hv8 b o = some (.int .i64 x3) ∧ cnd (decide (x3 < (2 : Int)))
      (let hv9 : Heap := hv8.push (.cells #[.int .i64 0] 3)
      (∃ u, hcell hv9 hv8.size 0 = some u) ∧ hfree hv9 hv8.size 0 = true ∧ let hv10 : Heap := hset hv9 hv8.size 0 (.int .i64 0)
      ∃ (gf : Nat) (lb : Array Value), (.func rF rX rY : Value) = .func (.func gf) #[] lb ∧ mem fnsX gf = true ∧ -- range 2
      ∃ (xs : List (List Value)) (Mv : List Nat) (Iv2 : Nat → Heap → Prop), (∀ x ∈ xs, ∀ K, shAll [.int .i64, .int .i64] K → K x) ∧ IterH Try.prog gf lb xs Mv hv10 ∧ Iv2 0 hv10 ∧
      (∀ (i j : Nat) (h1 hv11 : Heap), i < xs.length → Iv2 i h1 → h1.size = hv10.size → Fr [] h1 hv11 →
        ∀ v2 : Int, ∀ far : Int, xs[j]? = some [.int .i64 v2, .int .i64 far] →
          let k : Prop :=
            ((∃ u, hcell hv11 hv2.size 0 = some u) ∧ hfree hv11 hv2.size 0 = true ∧ let hv12 : Heap := hset hv11 hv2.size 0 (.bool false)
            ∃ h2 : Heap, h2.size = hv10.size ∧ Fr [] h2 hv12 ∧ (j = i → ∀ hw : Heap, Fr [] h2 hw → ∀ hz2 : Heap, Shut h.size hw hz2 → ∃ x8 : Bool, hcell hz2 hv2.size 0 = some (.bool x8) ∧ R (.bool x8) hz2))
          ∃ x4 : Int, hcell hv11 hv8.size 0 = some (.int .i64 x4) ∧ ∃ (xA2 : Option Addr) (xL2 xC2 : Nat), hcell hv11 hv.size 0 = some (.slice xA2 xL2 xC2) ∧ cnd (decide (x4 ≥ ((xL2 : Nat) : Int)))
            (k)
            (∃ (xA3 : Option Addr) (xL3 xC3 : Nat), hcell hv11 hv.size 0 = some (.slice xA3 xL3 xC3) ∧ ∃ x5 : Int, hcell hv11 hv8.size 0 = some (.int .i64 x5) ∧ ∃ b2 o2, xA3 = some ⟨b2, o2, none⟩ ∧ 0 ≤ x5 ∧ x5 < (xL3 : Nat) ∧ ∃ x6 : Int, hcell hv11 b2 (o2 + (Int.toNat x5) * 1) = some (.int .i64 x6) ∧ cnd (v2 != x6)
               (k)
               (∃ (xA4 : Option Addr) (xL4 xC4 : Nat), hcell hv11 hv.size (0 + 2) = some (.slice xA4 xL4 xC4) ∧ ∃ b3 o3, xA4 = some ⟨b3, o3, none⟩ ∧ 0 ≤ v2 ∧ v2 < (xL4 : Nat) ∧ ∃ x7 : Int, hcell hv11 b3 (o3 + (Int.toNat v2) * 1) = some (.int .i64 x7) ∧ cnd (far != x7)
                  ((∃ u, hcell hv11 hv2.size 0 = some u) ∧ hfree hv11 hv2.size 0 = true ∧ let hv13 : Heap := hset hv11 hv2.size 0 (.bool false)
                  ∃ h2_2 : Heap, h2_2.size = hv10.size ∧ Fr [] h2_2 hv13 ∧ (j = i → ∀ hw2 : Heap, Fr [] h2_2 hw2 → ∀ hz3 : Heap, Shut h.size hw2 hz3 → ∃ x9 : Bool, hcell hz3 hv2.size 0 = some (.bool x9) ∧ R (.bool x9) hz3))
                  (∃ x10 : Int, hcell hv11 hv8.size 0 = some (.int .i64 x10) ∧ (∃ u, hcell hv11 hv8.size 0 = some u) ∧ hfree hv11 hv8.size 0 = true ∧ let hv14 : Heap := hset hv11 hv8.size 0 (.int .i64 (IntKind.i64.wrap (x10 + (1 : Int))))
                  ∃ b4 o4, turnP = some ⟨b4, o4, none⟩ ∧ ∃ x11 : Int, hcell hv14 b4 o4 = some (.int .i64 x11) ∧ cnd (x11 == (0 : Int))
                    (∃ x12 : Int, hcell hv14 hv8.size 0 = some (.int .i64 x12) ∧ cnd (x12 == (3 : Int))
                       (∃ h2_3 : Heap, h2_3.size = hv10.size ∧ Fr [] h2_3 hv14 ∧ (j = i → ∀ hw3 : Heap, Fr [] h2_3 hw3 → ∃ x13 : Int, hcell hw3 hv8.size 0 = some (.int .i64 x13) ∧ ∃ (xA5 : Option Addr) (xL5 xC5 : Nat), hcell hw3 hv.size 0 = some (.slice xA5 xL5 xC5) ∧ cnd (x13 != ((xL5 : Nat) : Int))
                         (∃ b5 o5, turnP = some ⟨b5, o5, none⟩ ∧ ∃ x14 : Int, hcell hw3 b5 o5 = some (.int .i64 x14) ∧ cnd (decide (x14 > (0 : Int)))
                           ((∃ u, hcell hw3 hv2.size 0 = some u) ∧ hfree hw3 hv2.size 0 = true ∧ let hv15 : Heap := hset hw3 hv2.size 0 (.bool false)
                            ∀ hz4 : Heap, Shut h.size hv15 hz4 → ∃ x16 : Bool, hcell hz4 hv2.size 0 = some (.bool x16) ∧ R (.bool x16) hz4)
                           (∃ x15 : Int, hcell hw3 hv8.size 0 = some (.int .i64 x15) ∧ cnd (x15 != (3 : Int))
                              ((∃ u, hcell hw3 hv2.size 0 = some u) ∧ hfree hw3 hv2.size 0 = true ∧ let hv16 : Heap := hset hw3 hv2.size 0 (.bool false)
                              ∀ hz5 : Heap, Shut h.size hv16 hz5 → ∃ x17 : Bool, hcell hz5 hv2.size 0 = some (.bool x17) ∧ R (.bool x17) hz5)
                              (∃ b6 o6, turnP = some ⟨b6, o6, none⟩ ∧ ∃ x18 : Int, hcell hw3 b6 o6 = some (.int .i64 x18) ∧ let hv17 : Heap := hw3.push (.cells #[.int .i64 0] 3)
                              (∃ u, hcell hv17 hw3.size 0 = some u) ∧ hfree hv17 hw3.size 0 = true ∧ let hv18 : Heap := hset hv17 hw3.size 0 (.int .i64 x18)
                              ∃ x19 : Int, hcell hv18 hw3.size 0 = some (.int .i64 x19) ∧ (∃ u, hcell hv18 hw3.size 0 = some u) ∧ hfree hv18 hw3.size 0 = true ∧ let hv19 : Heap := hset hv18 hw3.size 0 (.int .i64 (IntKind.i64.wrap (x19 + (1 : Int))))
                              Iv [.pointer (some (⟨hw3.size, 0, none⟩ : Addr))] hv19 ∧ m [.pointer (some (⟨hw3.size, 0, none⟩ : Addr))] hv19 < m [.pointer turnP] hv8)))
                         (∃ b7 o7, turnP = some ⟨b7, o7, none⟩ ∧ ∃ x20 : Int, hcell hw3 b7 o7 = some (.int .i64 x20) ∧ let hv20 : Heap := hw3.push (.cells #[.int .i64 0] 3)
                          (∃ u, hcell hv20 hw3.size 0 = some u) ∧ hfree hv20 hw3.size 0 = true ∧ let hv21 : Heap := hset hv20 hw3.size 0 (.int .i64 x20)
                          ∃ x21 : Int, hcell hv21 hw3.size 0 = some (.int .i64 x21) ∧ (∃ u, hcell hv21 hw3.size 0 = some u) ∧ hfree hv21 hw3.size 0 = true ∧ let hv22 : Heap := hset hv21 hw3.size 0 (.int .i64 (IntKind.i64.wrap (x21 + (1 : Int))))
                          Iv [.pointer (some (⟨hw3.size, 0, none⟩ : Addr))] hv22 ∧ m [.pointer (some (⟨hw3.size, 0, none⟩ : Addr))] hv22 < m [.pointer turnP] hv8)))
                       (j = i ∧ Fr Mv hv11 hv14 ∧ ∃ h2_4 : Heap, h2_4.size = hv10.size ∧ Fr [] h2_4 hv14 ∧ Iv2 (i + 1) h2_4))
                    (j = i ∧ Fr Mv hv11 hv14 ∧ ∃ h2_5 : Heap, h2_5.size = hv10.size ∧ Fr [] h2_5 hv14 ∧ Iv2 (i + 1) h2_5))))) ∧
      ∀ (h1_2 hv23 : Heap), Iv2 xs.length h1_2 → h1_2.size = hv10.size → Fr [] h1_2 hv23 →
      ∃ x22 : Int, hcell hv23 hv8.size 0 = some (.int .i64 x22) ∧ ∃ (xA6 : Option Addr) (xL6 xC6 : Nat), hcell hv23 hv.size 0 = some (.slice xA6 xL6 xC6) ∧ cnd (x22 != ((xL6 : Nat) : Int))
        (∃ b8 o8, turnP = some ⟨b8, o8, none⟩ ∧ ∃ x23 : Int, hcell hv23 b8 o8 = some (.int .i64 x23) ∧ cnd (decide (x23 > (0 : Int)))
          ((∃ u, hcell hv23 hv2.size 0 = some u) ∧ hfree hv23 hv2.size 0 = true ∧ let hv24 : Heap := hset hv23 hv2.size 0 (.bool false)
           ∀ hz6 : Heap, Shut h.size hv24 hz6 → ∃ x25 : Bool, hcell hz6 hv2.size 0 = some (.bool x25) ∧ R (.bool x25) hz6)
          (∃ x24 : Int, hcell hv23 hv8.size 0 = some (.int .i64 x24) ∧ cnd (x24 != (3 : Int))
             ((∃ u, hcell hv23 hv2.size 0 = some u) ∧ hfree hv23 hv2.size 0 = true ∧ let hv25 : Heap := hset hv23 hv2.size 0 (.bool false)
             ∀ hz7 : Heap, Shut h.size hv25 hz7 → ∃ x26 : Bool, hcell hz7 hv2.size 0 = some (.bool x26) ∧ R (.bool x26) hz7)
             (∃ b9 o9, turnP = some ⟨b9, o9, none⟩ ∧ ∃ x27 : Int, hcell hv23 b9 o9 = some (.int .i64 x27) ∧ let hv26 : Heap := hv23.push (.cells #[.int .i64 0] 3)
             (∃ u, hcell hv26 hv23.size 0 = some u) ∧ hfree hv26 hv23.size 0 = true ∧ let hv27 : Heap := hset hv26 hv23.size 0 (.int .i64 x27)
             ∃ x28 : Int, hcell hv27 hv23.size 0 = some (.int .i64 x28) ∧ (∃ u, hcell hv27 hv23.size 0 = some u) ∧ hfree hv27 hv23.size 0 = true ∧ let hv28 : Heap := hset hv27 hv23.size 0 (.int .i64 (IntKind.i64.wrap (x28 + (1 : Int))))
             Iv [.pointer (some (⟨hv23.size, 0, none⟩ : Addr))] hv28 ∧ m [.pointer (some (⟨hv23.size, 0, none⟩ : Addr))] hv28 < m [.pointer turnP] hv8)))
        (∃ b10 o10, turnP = some ⟨b10, o10, none⟩ ∧ ∃ x29 : Int, hcell hv23 b10 o10 = some (.int .i64 x29) ∧ let hv29 : Heap := hv23.push (.cells #[.int .i64 0] 3)
         (∃ u, hcell hv29 hv23.size 0 = some u) ∧ hfree hv29 hv23.size 0 = true ∧ let hv30 : Heap := hset hv29 hv23.size 0 (.int .i64 x29)
         ∃ x30 : Int, hcell hv30 hv23.size 0 = some (.int .i64 x30) ∧ (∃ u, hcell hv30 hv23.size 0 = some u) ∧ hfree hv30 hv23.size 0 = true ∧ let hv31 : Heap := hset hv30 hv23.size 0 (.int .i64 (IntKind.i64.wrap (x30 + (1 : Int))))
         Iv [.pointer (some (⟨hv23.size, 0, none⟩ : Addr))] hv31 ∧ m [.pointer (some (⟨hv23.size, 0, none⟩ : Addr))] hv31 < m [.pointer turnP] hv8))
      ((∃ u, hcell hv8 hv2.size 0 = some u) ∧ hfree hv8 hv2.size 0 = true ∧ let hv32 : Heap := hset hv8 hv2.size 0 (.bool true)
      ∀ hz8 : Heap, Shut h.size hv32 hz8 → ∃ x31 : Bool, hcell hz8 hv2.size 0 = some (.bool x31) ∧ R (.bool x31) hz8))
theorem calls87 {h : Heap} {R : Value → Heap → Prop} (g : Int) (gA : Option Addr) (gL gC : Nat) (s : Int) (tA : Option Addr) (tL tC : Nat) (tA2 : Option Addr) (tL2 tC2 : Nat) (tA3 : Option Addr) (tL3 tC3 : Nat) (tA4 : Option Addr) (tL4 tC4 : Nat) (H : S87 g gA gL gC s tA tL tC tA2 tL2 tC2 tA3 tL3 tC3 tA4 tL4 tC4 h R) : CallsH Try.prog 87 #[.agg #[.int .i64 g, .slice gA gL gC], .int .i64 s, .agg #[.slice tA tL tC, .slice tA2 tL2 tC2, .slice tA3 tL3 tC3, .slice tA4 tL4 tC4]] h R := by
  have e : S87 g gA gL gC s tA tL tC tA2 tL2 tC2 tA3 tL3 tC3 tA4 tL4 tC4 h R = FXr (envX [] 69) { loops := [(0, ⟨[5, 6, 7], [8], [], []⟩)], joins := [], blocks := [], draws := [], rng := [(2, [.int .i64, .int .i64])] } Try.f87 (Try.f87.body.getD .skip) [.agg #[.int .i64 g, .slice gA gL gC], .int .i64 s, .agg #[.slice tA tL tC, .slice tA2 tL2 tC2, .slice tA3 tL3 tC3, .slice tA4 tL4 tC4]] h R := by kernel_rfl
  exact calls_of_FXr (envX_ok _ _) Try.func87 (by kernel_rfl) (by kernel_rfl) (by kernel_rfl) (e ▸ H)
end Go.Proofs.Ytmcloipjlihhlaa
