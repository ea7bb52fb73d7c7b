/- What is left to be shown of some functions: printed by program out of the loaded functions; tied to them by the kernel. Conditions: none. -/
import Derived.Test.YtmcloipjlihhlaaSEnv
namespace Go.Proofs.Ytmcloipjlihhlaa
open Go.X
set_option maxRecDepth 100000
set_option linter.unusedVariables false

/-- tracery/maker.made -/
def S112 (ev : Int) (n : Int) (makeF : Nat) (makeY : List Value) (h : Heap) (R : Value → Heap → Prop) : Prop :=
  let hv : Heap := h.push (.cells #[.int .i64 0, .slice none 0 0] 26)
  cnd (ev != (0 : Int))
    (let hv2 : Heap := hset (hset hv h.size 0 (.int .i64 0)) h.size (0 + 1) (.slice none 0 0)
    R (.tuple #[.agg #[.int .i64 0, .slice none 0 0], .int .i64 ev]) hv2)
    (let hv3 : Heap := hv.push (.cells #[.int .i64 n, .slice none 0 0] 229)
    callX Try.prog makeF (List.toArray (#[.pointer (some (⟨hv.size, 0, none⟩ : Addr))].toList ++ makeY)) hv3 [h.size] fun v hv4 =>
    v = .tuple #[] ∧
    ∃ x : Int, hcell hv4 hv.size 0 = some (.int .i64 x) ∧ ∃ (xA : Option Addr) (xL xC : Nat), hcell hv4 hv.size (0 + 1) = some (.slice xA xL xC) ∧ let hv5 : Heap := hset (hset hv4 h.size 0 (.int .i64 x)) h.size (0 + 1) (.slice xA xL xC)
    R (.tuple #[.agg #[.int .i64 x, .slice xA xL xC], .int .i64 0]) hv5)

theorem calls112_120 {h : Heap} {R : Value → Heap → Prop} (ev : Int) (n : Int) (c0P : Option Addr) (H : S112 ev n 120 [.pointer c0P] h R) : CallsH Try.prog 112 #[.int .i64 ev, .int .i64 n, .func (.func 120) #[] #[.pointer c0P]] h R := by
  have e : S112 ev n 120 [.pointer c0P] h R = FX (envX [6] 24) { loops := [], joins := [], blocks := [], draws := [] } Try.f112 (Try.f112.body.getD .skip) [.int .i64 ev, .int .i64 n, .func (.func 120) #[] #[.pointer c0P]] h R := by kernel_rfl
  exact calls_of_FX (envX_ok _ _) Try.func112 (by kernel_rfl) (by kernel_rfl) (by kernel_rfl) (e ▸ H)

theorem calls112_121 {h : Heap} {R : Value → Heap → Prop} (ev : Int) (n : Int) (c0P : Option Addr) (H : S112 ev n 121 [.pointer c0P] h R) : CallsH Try.prog 112 #[.int .i64 ev, .int .i64 n, .func (.func 121) #[] #[.pointer c0P]] h R := by
  have e : S112 ev n 121 [.pointer c0P] h R = FX (envX [6] 24) { loops := [], joins := [], blocks := [], draws := [] } Try.f112 (Try.f112.body.getD .skip) [.int .i64 ev, .int .i64 n, .func (.func 121) #[] #[.pointer c0P]] h R := by kernel_rfl
  exact calls_of_FX (envX_ok _ _) Try.func112 (by kernel_rfl) (by kernel_rfl) (by kernel_rfl) (e ▸ H)

theorem calls112_122 {h : Heap} {R : Value → Heap → Prop} (ev : Int) (n : Int) (c0P : Option Addr) (H : S112 ev n 122 [.pointer c0P] h R) : CallsH Try.prog 112 #[.int .i64 ev, .int .i64 n, .func (.func 122) #[] #[.pointer c0P]] h R := by
  have e : S112 ev n 122 [.pointer c0P] h R = FX (envX [6] 24) { loops := [], joins := [], blocks := [], draws := [] } Try.f112 (Try.f112.body.getD .skip) [.int .i64 ev, .int .i64 n, .func (.func 122) #[] #[.pointer c0P]] h R := by kernel_rfl
  exact calls_of_FX (envX_ok _ _) Try.func112 (by kernel_rfl) (by kernel_rfl) (by kernel_rfl) (e ▸ H)

theorem calls112_123 {h : Heap} {R : Value → Heap → Prop} (ev : Int) (n : Int) (c0P : Option Addr) (H : S112 ev n 123 [.pointer c0P] h R) : CallsH Try.prog 112 #[.int .i64 ev, .int .i64 n, .func (.func 123) #[] #[.pointer c0P]] h R := by
  have e : S112 ev n 123 [.pointer c0P] h R = FX (envX [6] 24) { loops := [], joins := [], blocks := [], draws := [] } Try.f112 (Try.f112.body.getD .skip) [.int .i64 ev, .int .i64 n, .func (.func 123) #[] #[.pointer c0P]] h R := by kernel_rfl
  exact calls_of_FX (envX_ok _ _) Try.func112 (by kernel_rfl) (by kernel_rfl) (by kernel_rfl) (e ▸ H)

theorem calls112_125 {h : Heap} {R : Value → Heap → Prop} (ev : Int) (n : Int) (c0P : Option Addr) (c1P : Option Addr) (H : S112 ev n 125 [.pointer c0P, .pointer c1P] h R) : CallsH Try.prog 112 #[.int .i64 ev, .int .i64 n, .func (.func 125) #[] #[.pointer c0P, .pointer c1P]] h R := by
  have e : S112 ev n 125 [.pointer c0P, .pointer c1P] h R = FX (envX [6] 24) { loops := [], joins := [], blocks := [], draws := [] } Try.f112 (Try.f112.body.getD .skip) [.int .i64 ev, .int .i64 n, .func (.func 125) #[] #[.pointer c0P, .pointer c1P]] h R := by kernel_rfl
  exact calls_of_FX (envX_ok _ _) Try.func112 (by kernel_rfl) (by kernel_rfl) (by kernel_rfl) (e ▸ H)

theorem calls112_126 {h : Heap} {R : Value → Heap → Prop} (ev : Int) (n : Int) (c0P : Option Addr) (c1P : Option Addr) (H : S112 ev n 126 [.pointer c0P, .pointer c1P] h R) : CallsH Try.prog 112 #[.int .i64 ev, .int .i64 n, .func (.func 126) #[] #[.pointer c0P, .pointer c1P]] h R := by
  have e : S112 ev n 126 [.pointer c0P, .pointer c1P] h R = FX (envX [6] 24) { loops := [], joins := [], blocks := [], draws := [] } Try.f112 (Try.f112.body.getD .skip) [.int .i64 ev, .int .i64 n, .func (.func 126) #[] #[.pointer c0P, .pointer c1P]] h R := by kernel_rfl
  exact calls_of_FX (envX_ok _ _) Try.func112 (by kernel_rfl) (by kernel_rfl) (by kernel_rfl) (e ▸ H)

theorem calls112_114 {h : Heap} {R : Value → Heap → Prop} (ev : Int) (n : Int) (c0P : Option Addr) (c1P : Option Addr) (H : S112 ev n 114 [.pointer c0P, .pointer c1P] h R) : CallsH Try.prog 112 #[.int .i64 ev, .int .i64 n, .func (.func 114) #[] #[.pointer c0P, .pointer c1P]] h R := by
  have e : S112 ev n 114 [.pointer c0P, .pointer c1P] h R = FX (envX [6] 24) { loops := [], joins := [], blocks := [], draws := [] } Try.f112 (Try.f112.body.getD .skip) [.int .i64 ev, .int .i64 n, .func (.func 114) #[] #[.pointer c0P, .pointer c1P]] h R := by kernel_rfl
  exact calls_of_FX (envX_ok _ _) Try.func112 (by kernel_rfl) (by kernel_rfl) (by kernel_rfl) (e ▸ H)

theorem calls112_200 {h : Heap} {R : Value → Heap → Prop} (ev : Int) (n : Int) (c0P : Option Addr) (H : S112 ev n 200 [.pointer c0P] h R) : CallsH Try.prog 112 #[.int .i64 ev, .int .i64 n, .func (.func 200) #[] #[.pointer c0P]] h R := by
  have e : S112 ev n 200 [.pointer c0P] h R = FX (envX [6] 24) { loops := [], joins := [], blocks := [], draws := [] } Try.f112 (Try.f112.body.getD .skip) [.int .i64 ev, .int .i64 n, .func (.func 200) #[] #[.pointer c0P]] h R := by kernel_rfl
  exact calls_of_FX (envX_ok _ _) Try.func112 (by kernel_rfl) (by kernel_rfl) (by kernel_rfl) (e ▸ H)

theorem calls112_201 {h : Heap} {R : Value → Heap → Prop} (ev : Int) (n : Int) (c0P : Option Addr) (H : S112 ev n 201 [.pointer c0P] h R) : CallsH Try.prog 112 #[.int .i64 ev, .int .i64 n, .func (.func 201) #[] #[.pointer c0P]] h R := by
  have e : S112 ev n 201 [.pointer c0P] h R = FX (envX [6] 24) { loops := [], joins := [], blocks := [], draws := [] } Try.f112 (Try.f112.body.getD .skip) [.int .i64 ev, .int .i64 n, .func (.func 201) #[] #[.pointer c0P]] h R := by kernel_rfl
  exact calls_of_FX (envX_ok _ _) Try.func112 (by kernel_rfl) (by kernel_rfl) (by kernel_rfl) (e ▸ H)

theorem calls112_202 {h : Heap} {R : Value → Heap → Prop} (ev : Int) (n : Int) (c0P : Option Addr) (c1P : Option Addr) (c2P : Option Addr) (H : S112 ev n 202 [.pointer c0P, .pointer c1P, .pointer c2P] h R) : CallsH Try.prog 112 #[.int .i64 ev, .int .i64 n, .func (.func 202) #[] #[.pointer c0P, .pointer c1P, .pointer c2P]] h R := by
  have e : S112 ev n 202 [.pointer c0P, .pointer c1P, .pointer c2P] h R = FX (envX [6] 24) { loops := [], joins := [], blocks := [], draws := [] } Try.f112 (Try.f112.body.getD .skip) [.int .i64 ev, .int .i64 n, .func (.func 202) #[] #[.pointer c0P, .pointer c1P, .pointer c2P]] h R := by kernel_rfl
  exact calls_of_FX (envX_ok _ _) Try.func112 (by kernel_rfl) (by kernel_rfl) (by kernel_rfl) (e ▸ H)

/-- tracery/tracerylaw5.MakerShapes -/
def S4 (n : Int) (m : Int) (h : Heap) (R : Value → Heap → Prop) : Prop :=
  callX Try.prog 27 #[] h [] fun v hv =>
  ∃ r : Bool, v = .bool r ∧
  cnd (!r)
    (R (.bool false) hv)
    (cnd (decide (n < (3 : Int)))
      (R (.bool true) hv)
      (cnd (decide (n > (40 : Int)))
         (R (.bool true) hv)
         (cnd (decide (m < (1 : Int)))
            (R (.bool true) hv)
            (cnd (decide (m > (20 : Int)))
               (R (.bool true) hv)
               (callX Try.prog 30 #[.int .i64 n] hv [] fun v2 hv2 =>
               ∃ ra : Int, ∃ (raA : Option Addr) (raL raC : Nat), ∃ rb : Int, v2 = .tuple #[.agg #[.int .i64 ra, .slice raA raL raC], .int .i64 rb] ∧
               let hv3 : Heap := hv2.push (.cells #[.int .i64 0, .slice none 0 0] 26)
               let hv4 : Heap := hset (hset hv3 hv2.size 0 (.int .i64 ra)) hv2.size (0 + 1) (.slice raA raL raC)
               callX Try.prog 31 #[.int .i64 n] hv4 [hv2.size] fun v3 hv5 =>
               ∃ ra2 : Int, ∃ (raA2 : Option Addr) (raL2 raC2 : Nat), ∃ rb2 : Int, v3 = .tuple #[.agg #[.int .i64 ra2, .slice raA2 raL2 raC2], .int .i64 rb2] ∧
               let hv6 : Heap := hv5.push (.cells #[.int .i64 0, .slice none 0 0] 26)
               let hv7 : Heap := hset (hset hv6 hv5.size 0 (.int .i64 ra2)) hv5.size (0 + 1) (.slice raA2 raL2 raC2)
               callX Try.prog 32 #[.int .i64 n] hv7 [hv5.size, hv2.size] fun v4 hv8 =>
               ∃ ra3 : Int, ∃ (raA3 : Option Addr) (raL3 raC3 : Nat), ∃ rb3 : Int, v4 = .tuple #[.agg #[.int .i64 ra3, .slice raA3 raL3 raC3], .int .i64 rb3] ∧
               let hv9 : Heap := hv8.push (.cells #[.int .i64 0, .slice none 0 0] 26)
               let hv10 : Heap := hset (hset hv9 hv8.size 0 (.int .i64 ra3)) hv8.size (0 + 1) (.slice raA3 raL3 raC3)
               callX Try.prog 33 #[.int .i64 n] hv10 [hv8.size, hv5.size, hv2.size] fun v5 hv11 =>
               ∃ ra4 : Int, ∃ (raA4 : Option Addr) (raL4 raC4 : Nat), ∃ rb4 : Int, v5 = .tuple #[.agg #[.int .i64 ra4, .slice raA4 raL4 raC4], .int .i64 rb4] ∧
               let hv12 : Heap := hv11.push (.cells #[.int .i64 0, .slice none 0 0] 26)
               let hv13 : Heap := hset (hset hv12 hv11.size 0 (.int .i64 ra4)) hv11.size (0 + 1) (.slice raA4 raL4 raC4)
               callX Try.prog 34 #[.int .i64 n, .int .i64 m] hv13 [hv11.size, hv8.size, hv5.size, hv2.size] fun v6 hv14 =>
               ∃ ra5 : Int, ∃ (raA5 : Option Addr) (raL5 raC5 : Nat), ∃ rb5 : Int, v6 = .tuple #[.agg #[.int .i64 ra5, .slice raA5 raL5 raC5], .int .i64 rb5] ∧
               let hv15 : Heap := hv14.push (.cells #[.int .i64 0, .slice none 0 0] 26)
               let hv16 : Heap := hset (hset hv15 hv14.size 0 (.int .i64 ra5)) hv14.size (0 + 1) (.slice raA5 raL5 raC5)
               callX Try.prog 35 #[.int .i64 n, .int .i64 m] hv16 [hv14.size, hv11.size, hv8.size, hv5.size, hv2.size] fun v7 hv17 =>
               ∃ ra6 : Int, ∃ (raA6 : Option Addr) (raL6 raC6 : Nat), ∃ rb6 : Int, v7 = .tuple #[.agg #[.int .i64 ra6, .slice raA6 raL6 raC6], .int .i64 rb6] ∧
               let hv18 : Heap := hv17.push (.cells #[.int .i64 0, .slice none 0 0] 26)
               let hv19 : Heap := hset (hset hv18 hv17.size 0 (.int .i64 ra6)) hv17.size (0 + 1) (.slice raA6 raL6 raC6)
               callX Try.prog 29 #[.agg #[.int .i64 ra3, .slice raA3 raL3 raC3]] hv19 [hv17.size, hv14.size, hv11.size, hv8.size, hv5.size, hv2.size] fun v8 hv20 =>
               ∃ r2 : Int, ∃ r3 : Int, ∃ r4 : Int, ∃ r5 : Int, ∃ r6 : Bool, v8 = .agg #[.int .i64 r2, .int .i64 r3, .int .i64 r4, .int .i64 r5, .bool r6] ∧
               let hv21 : Heap := hv20.push (.cells #[.int .i64 0, .int .i64 0, .int .i64 0, .int .i64 0, .bool false] 31)
               let hv22 : Heap := hset (hset (hset (hset (hset hv21 hv20.size 0 (.int .i64 r2)) hv20.size (0 + 1) (.int .i64 r3)) hv20.size ((0 + 1) + 1) (.int .i64 r4)) hv20.size (((0 + 1) + 1) + 1) (.int .i64 r5)) hv20.size ((((0 + 1) + 1) + 1) + 1) (.bool r6)
               let hv23 : Heap := hv22.push (.cells #[.int .i64 ra, .slice raA raL raC, .int .i64 ra2, .slice raA2 raL2 raC2, .int .i64 ra3, .slice raA3 raL3 raC3, .int .i64 ra4, .slice raA4 raL4 raC4, .int .i64 ra5, .slice raA5 raL5 raC5, .int .i64 ra6, .slice raA6 raL6 raC6] 26)
               ∃ (Iv : List Value → Heap → Prop) (m2 : List Value → Heap → Nat), Iv [.int .i64 0] hv23 ∧ -- loop 0: ['i'] []
               ∀ i : Int, ∀ hv24, Iv [.int .i64 i] hv24 →
               cnd (decide (i < ((6 : Nat) : Int)))
                 (∃ b o, (some (⟨hv22.size, 0, none⟩ : Addr)) = some ⟨b, o, none⟩ ∧ 0 ≤ i ∧ i < (6 : Nat) ∧ ∃ x : Int, hcell hv24 b (o + (Int.toNat i) * 2) = some (.int .i64 x) ∧ ∃ (xA : Option Addr) (xL xC : Nat), hcell hv24 b ((o + (Int.toNat i) * 2) + 1) = some (.slice xA xL xC) ∧ callX Try.prog 36 #[.agg #[.int .i64 x, .slice xA xL xC], .slice none 0 0, .slice none 0 0] hv24 [hv2.size, hv5.size, hv8.size, hv11.size, hv14.size, hv17.size, hv20.size] fun v9 hv25 =>
                 ∃ (raA7 : Option Addr) (raL7 raC7 : Nat), ∃ rb7 : Int, v9 = .tuple #[.slice raA7 raL7 raC7, .int .i64 rb7] ∧
                 cnd (rb7 != (1 : Int))
                   (R (.bool false) hv25)
                   (∃ b2 o2, (some (⟨hv22.size, 0, none⟩ : Addr)) = some ⟨b2, o2, none⟩ ∧ 0 ≤ i ∧ i < (6 : Nat) ∧ ∃ x2 : Int, hcell hv25 b2 (o2 + (Int.toNat i) * 2) = some (.int .i64 x2) ∧ ∃ (xA2 : Option Addr) (xL2 xC2 : Nat), hcell hv25 b2 ((o2 + (Int.toNat i) * 2) + 1) = some (.slice xA2 xL2 xC2) ∧ callX Try.prog 29 #[.agg #[.int .i64 x2, .slice xA2 xL2 xC2]] hv25 [hv2.size, hv5.size, hv8.size, hv11.size, hv14.size, hv17.size, hv20.size] fun v10 hv26 =>
                   ∃ r7 : Int, ∃ r8 : Int, ∃ r9 : Int, ∃ r10 : Int, ∃ r11 : Bool, v10 = .agg #[.int .i64 r7, .int .i64 r8, .int .i64 r9, .int .i64 r10, .bool r11] ∧
                   cnd (!r11)
                     (R (.bool false) hv26)
                     (Iv [.int .i64 (IntKind.i64.wrap (i + (1 : Int)))] hv26 ∧ m2 [.int .i64 (IntKind.i64.wrap (i + (1 : Int)))] hv26 < m2 [.int .i64 i] hv24)))
                 (cnd (((raL : Nat) : Int) == n)
                   (cnd (((raL2 : Nat) : Int) == (IntKind.i64.wrap ((2 : Int) * n)))
                      (cnd (ra2 == (IntKind.i64.wrap (n + (1 : Int))))
                         (cnd (((raL3 : Nat) : Int) == (IntKind.i64.wrap ((3 : Int) * n)))
                            (cnd (r4 == (3 : Int))
                               (cnd (r5 == (3 : Int))
                                  ((2 : Int) ≠ 0 ∧ cnd (((raL4 : Nat) : Int) == (IntKind.i64.wrap (Int.tdiv (IntKind.i64.wrap (n * (IntKind.i64.wrap (n - (1 : Int))))) (2 : Int))))
                                      (cnd (((raL5 : Nat) : Int) == (IntKind.i64.wrap (n * m)))
                                         (R (.bool (((raL6 : Nat) : Int) == (IntKind.i64.wrap ((IntKind.i64.wrap ((IntKind.i64.wrap ((IntKind.i64.wrap ((2 : Int) * n)) * m)) - n)) - m)))) hv24)
                                         (R (.bool false) hv24))
                                      (R (.bool false) hv24))
                                  (R (.bool false) hv24))
                               (R (.bool false) hv24))
                            (R (.bool false) hv24))
                         (R (.bool false) hv24))
                      (R (.bool false) hv24))
                   (R (.bool false) hv24)))))))

theorem calls4 {h : Heap} {R : Value → Heap → Prop} (n : Int) (m : Int) (H : S4 n m h R) : CallsH Try.prog 4 #[.int .i64 n, .int .i64 m] h R := by
  have e : S4 n m h R = FX (envX [5, 7, 9, 11, 13, 15, 17] 176) { loops := [(0, ⟨[0, 1, 5, 7, 9, 11, 13, 15, 17, 18], [19], [5, 7, 9, 11, 13, 15, 17], []⟩)], joins := [], blocks := [], draws := [] } Try.f4 (Try.f4.body.getD .skip) [.int .i64 n, .int .i64 m] h R := by kernel_rfl
  exact calls_of_FX (envX_ok _ _) Try.func4 (by kernel_rfl) (by kernel_rfl) (by kernel_rfl) (e ▸ H)

end Go.Proofs.Ytmcloipjlihhlaa
