/- What is left to be shown of some functions: printed by program out of the loaded functions; tied to them by the kernel. Conditions: none. -/
import Derived.Test.YtmcloipjlihhlaaSEnv
namespace Go.Proofs.Ytmcloipjlihhlaa
open Go.X
set_option maxRecDepth 100000
set_option linter.unusedVariables false

/-- (*tracery/tracerylaw3.Ints).Keep -/
def S70 (bP : Option Addr) (lsA : Option Addr) (lsL lsC : Nat) (h : Heap) (R : Value → Heap → Prop) : Prop :=
  ∃ (Iv : List Value → Heap → Prop) (m : List Value → Heap → Nat), Iv [.int .i64 0] h ∧ -- loop 0: ['i'] []
  ∀ i : Int, ∀ hv, Iv [.int .i64 i] hv →
  cnd (decide (i < ((lsL : Nat) : Int)))
    (∃ b o, lsA = some ⟨b, o, none⟩ ∧ 0 ≤ i ∧ i < (lsL : Nat) ∧ ∃ (xA : Option Addr) (xL xC : Nat), hcell hv b (o + (Int.toNat i) * 1) = some (.slice xA xL xC) ∧ ∃ b2 o2, lsA = some ⟨b2, o2, none⟩ ∧ 0 ≤ i ∧ i < (lsL : Nat) ∧ ∃ (xA2 : Option Addr) (xL2 xC2 : Nat), hcell hv b2 (o2 + (Int.toNat i) * 1) = some (.slice xA2 xL2 xC2) ∧ callX Try.prog 139 #[.int .i64 ((xL : Nat) : Int), .int .i64 ((xC2 : Nat) : Int)] hv [] fun v hv2 =>
    ∃ r : Int, v = .int .i64 r ∧
    Fr [] hv hv2 ∧
    cnd (decide (r > (0 : Int)))
      (∃ b3 o3, bP = some ⟨b3, o3, none⟩ ∧ ∃ x : Int, hcell hv2 b3 (o3 + 1) = some (.int .i64 x) ∧ ∃ Jv : List Value → Heap → Prop, -- join 33 [] []
       ( cnd (decide ((IntKind.i64.wrap (x + r)) ≤ (1048576 : Int)))
          (∃ b4 o4, bP = some ⟨b4, o4, none⟩ ∧ ∃ x2 : Int, hcell hv2 b4 (o4 + 1) = some (.int .i64 x2) ∧ ∃ b5 o5, bP = some ⟨b5, o5, none⟩ ∧ (∃ u, hcell hv2 b5 (o5 + 1) = some u) ∧ hfree hv2 b5 (o5 + 1) = true ∧ let hv3 : Heap := hset hv2 b5 (o5 + 1) (.int .i64 (IntKind.i64.wrap (x2 + r)))
          ∃ Mv : List Nat, (∀ b ∈ ([] : List Nat), b ∉ Mv) ∧
          ∃ b6 o6, bP = some ⟨b6, o6, none⟩ ∧ b6 ∉ Mv ∧ ∃ (xA3 : Option Addr) (xL3 xC3 : Nat), hcell hv3 b6 o6 = some (.slice xA3 xL3 xC3) ∧ ∃ b7 o7, lsA = some ⟨b7, o7, none⟩ ∧ 0 ≤ i ∧ i < (lsL : Nat) ∧ b7 ∉ Mv ∧ ∃ (xA4 : Option Addr) (xL4 xC4 : Nat), hcell hv3 b7 (o7 + (Int.toNat i) * 1) = some (.slice xA4 xL4 xC4) ∧ let hv4 : Heap := hv3.push (.cells #[.slice xA4 xL4 xC4] 40)
          Fr Mv hv3 hv4 ∧
          ∃ old, Ownd hv4 40 1 xA3 xL3 xC3 old ∧ (∀ b ∈ ([hv3.size] : List Nat), b ∉ blkOf xA3) ∧ (xL3 + 1) * 24 ≤ 140737488355328 ∧ (xL3 + 1) ≤ maxLen ∧
          ∀ sA sC hv6, Ownd hv6 40 1 sA (xL3 + 1) sC (old ++ [.slice xA4 xL4 xC4]) → Fr (blkOf xA3) hv4 hv6 → ((sA = xA3 ∧ sC = xC3) ∨ ∃ g, sA = some ⟨g, 0, none⟩ ∧ hv4.size ≤ g) → (xC3 < (xL3 + 1) → Fr [] hv4 hv6) →
          Fr Mv hv3 hv6 ∧
          ∃ b8 o8, bP = some ⟨b8, o8, none⟩ ∧ b8 ≠ hv3.size ∧ (∃ u, hcell hv6 b8 o8 = some u) ∧ hfree hv6 b8 o8 = true ∧ let hv7 : Heap := hset hv6 b8 o8 (.slice sA (xL3 + 1) sC)
          Jv [] hv7)
          (Jv [] hv2)) ∧
       ∀ hv8, Jv [] hv8 →
       Iv [.int .i64 (IntKind.i64.wrap (i + (1 : Int)))] hv8 ∧ m [.int .i64 (IntKind.i64.wrap (i + (1 : Int)))] hv8 < m [.int .i64 i] hv)
      (Iv [.int .i64 (IntKind.i64.wrap (i + (1 : Int)))] hv2 ∧ m [.int .i64 (IntKind.i64.wrap (i + (1 : Int)))] hv2 < m [.int .i64 i] hv))
    (R (.tuple #[]) hv)
theorem calls70 {h : Heap} {R : Value → Heap → Prop} (bP : Option Addr) (lsA : Option Addr) (lsL lsC : Nat) (H : S70 bP lsA lsL lsC h R) : CallsH Try.prog 70 #[.pointer bP, .slice lsA lsL lsC] h R := by
  have e : S70 bP lsA lsL lsC h R = FX (envX [52] 56) { loops := [(0, ⟨[0, 1], [4], [], []⟩)], joins := [(33, ⟨[0, 1, 4], [], [], []⟩)], blocks := [], draws := [(3, ⟨12, false⟩), (6, ⟨11, true⟩)] } Try.f70 (Try.f70.body.getD .skip) [.pointer bP, .slice lsA lsL lsC] h R := by kernel_rfl
  exact calls_of_FX (envX_ok _ _) Try.func70 (by kernel_rfl) (by kernel_rfl) (by kernel_rfl) (e ▸ H)
/-- tracery/tracerylaw3.Twin -/
def S63 (g : Int) (gA : Option Addr) (gL gC : Nat) (h : Heap) (R : Value → Heap → Prop) : Prop :=
  let hv : Heap := h.push (.cells #[.int .i64 g, .slice gA gL gC] 26)
  let hv2 : Heap := hv.push (.cells #[.int .i64 0, .slice none 0 0] 26)
  ∃ Mv : List Nat, (∀ b ∈ ([hv.size, h.size] : List Nat), b ∉ Mv) ∧
  (∃ xs : List Value, Reads hv2 2 gA gL xs ∧ (gA = none → gC = 0) ∧ (∀ v ∈ xs, v.oneCell' = true) ∧ ∃ old, Ownd hv2 35 2 none 0 0 old ∧ (∀ b ∈ ([hv.size, h.size] : List Nat), b ∉ blkOf none) ∧ (0 + gL) * 16 ≤ 140737488355328 ∧ (0 + gL) ≤ maxLen ∧
  ∀ sA sC hv4, Ownd hv4 35 2 sA (0 + gL) sC (old ++ xs) → Fr (blkOf none) hv2 hv4 → ((sA = none ∧ sC = 0) ∨ ∃ g, sA = some ⟨g, 0, none⟩ ∧ hv2.size ≤ g) → (0 < (0 + gL) → Fr [] hv2 hv4) →
  Fr Mv hv2 hv4 ∧
  let hv5 : Heap := hv4.push (.cells #[.int .i64 (-7), .int .i64 7] 35)
  Fr Mv hv2 hv5 ∧
  ∃ old2, Ownd hv5 35 2 sA (0 + gL) sC old2 ∧ (∀ b ∈ ([hv4.size, hv.size, h.size] : List Nat), b ∉ blkOf sA) ∧ ((0 + gL) + 1) * 16 ≤ 140737488355328 ∧ ((0 + gL) + 1) ≤ maxLen ∧
  ∀ sA2 sC2 hv7, Ownd hv7 35 2 sA2 ((0 + gL) + 1) sC2 (old2 ++ [.int .i64 (-7), .int .i64 7]) → Fr (blkOf sA) hv5 hv7 → ((sA2 = sA ∧ sC2 = sC) ∨ ∃ g, sA2 = some ⟨g, 0, none⟩ ∧ hv5.size ≤ g) → (sC < ((0 + gL) + 1) → Fr [] hv5 hv7) →
  Fr Mv hv2 hv7 ∧
  0 ≤ ((gL : Nat) : Int) ∧ ((gL : Nat) : Int) ≤ (sC2 : Nat) ∧ let hv8 : Heap := hset (hset hv7 hv.size 0 (.int .i64 g)) hv.size (0 + 1) (.slice (if sC2 = 0 then sA2 else Option.map (fun addr => Addr.add addr (0 * 2)) sA2) ((Int.toNat ((gL : Nat) : Int)) - 0) (sC2 - 0))
  R (.agg #[.int .i64 g, .slice (if sC2 = 0 then sA2 else Option.map (fun addr => Addr.add addr (0 * 2)) sA2) ((Int.toNat ((gL : Nat) : Int)) - 0) (sC2 - 0)]) hv8)
  ∧ ( let hv9 : Heap := hv2.push (.cells #[.int .i64 (-7), .int .i64 7] 35)
   Fr Mv hv2 hv9 ∧
   ∃ xs2 : List Value, Reads hv9 2 gA gL xs2 ∧ (gA = none → gC = 0) ∧ (∀ v ∈ xs2, v.oneCell' = true) ∧ ∃ old3, Ownd hv9 35 2 none 0 0 old3 ∧ (∀ b ∈ ([hv2.size, hv.size, h.size] : List Nat), b ∉ blkOf none) ∧ (0 + gL) * 16 ≤ 140737488355328 ∧ (0 + gL) ≤ maxLen ∧
   ∀ sA3 sC3 hv11, Ownd hv11 35 2 sA3 (0 + gL) sC3 (old3 ++ xs2) → Fr (blkOf none) hv9 hv11 → ((sA3 = none ∧ sC3 = 0) ∨ ∃ g, sA3 = some ⟨g, 0, none⟩ ∧ hv9.size ≤ g) → (0 < (0 + gL) → Fr [] hv9 hv11) →
   Fr Mv hv2 hv11 ∧
   ∃ old4, Ownd hv11 35 2 sA3 (0 + gL) sC3 old4 ∧ (∀ b ∈ ([hv2.size, hv.size, h.size] : List Nat), b ∉ blkOf sA3) ∧ ((0 + gL) + 1) * 16 ≤ 140737488355328 ∧ ((0 + gL) + 1) ≤ maxLen ∧
   ∀ sA4 sC4 hv13, Ownd hv13 35 2 sA4 ((0 + gL) + 1) sC4 (old4 ++ [.int .i64 (-7), .int .i64 7]) → Fr (blkOf sA3) hv11 hv13 → ((sA4 = sA3 ∧ sC4 = sC3) ∨ ∃ g, sA4 = some ⟨g, 0, none⟩ ∧ hv11.size ≤ g) → (sC3 < ((0 + gL) + 1) → Fr [] hv11 hv13) →
   Fr Mv hv2 hv13 ∧
   0 ≤ ((gL : Nat) : Int) ∧ ((gL : Nat) : Int) ≤ (sC4 : Nat) ∧ let hv14 : Heap := hset (hset hv13 hv.size 0 (.int .i64 g)) hv.size (0 + 1) (.slice (if sC4 = 0 then sA4 else Option.map (fun addr => Addr.add addr (0 * 2)) sA4) ((Int.toNat ((gL : Nat) : Int)) - 0) (sC4 - 0))
   R (.agg #[.int .i64 g, .slice (if sC4 = 0 then sA4 else Option.map (fun addr => Addr.add addr (0 * 2)) sA4) ((Int.toNat ((gL : Nat) : Int)) - 0) (sC4 - 0)]) hv14)
theorem calls63 {h : Heap} {R : Value → Heap → Prop} (g : Int) (gA : Option Addr) (gL gC : Nat) (H : S63 g gA gL gC h R) : CallsH Try.prog 63 #[.agg #[.int .i64 g, .slice gA gL gC]] h R := by
  have e : S63 g gA gL gC h R = FX (envX [1, 2, 9] 16) { loops := [], joins := [], blocks := [], draws := [(1, ⟨12, true⟩)] } Try.f63 (Try.f63.body.getD .skip) [.agg #[.int .i64 g, .slice gA gL gC]] h R := by kernel_rfl
  exact calls_of_FX (envX_ok _ _) Try.func63 (by kernel_rfl) (by kernel_rfl) (by kernel_rfl) (e ▸ H)
/-- tracery/tracerylaw3.Kept -/
def S73 (t : Int) (tA : Option Addr) (tL tC : Nat) (g : Int) (gA : Option Addr) (gL gC : Nat) (h : Heap) (R : Value → Heap → Prop) : Prop :=
  let hv : Heap := h.push (.cells #[.int .i64 t, .slice tA tL tC] 26)
  let hv2 : Heap := hv.push (.cells #[.int .i64 g, .slice gA gL gC] 26)
  callX Try.prog 40 #[.agg #[.int .i64 t, .slice tA tL tC], .agg #[.int .i64 g, .slice gA gL gC]] hv2 [hv.size, h.size] fun v hv3 =>
  ∃ r : Bool, v = .bool r ∧
  Fr [] hv2 hv3 ∧
  cnd r
    (0 ≤ (IntKind.i64.wrap (((gL : Nat) : Int) + (1 : Int))) ∧ (IntKind.i64.wrap (((gL : Nat) : Int) + (1 : Int))) ≤ (tC : Nat) ∧ ∃ b o, (if tC = 0 then tA else Option.map (fun addr => Addr.add addr (0 * 2)) tA) = some ⟨b, o, none⟩ ∧ 0 ≤ ((gL : Nat) : Int) ∧ ((gL : Nat) : Int) < (((Int.toNat (IntKind.i64.wrap (((gL : Nat) : Int) + (1 : Int)))) - 0) : Nat) ∧ ∃ x : Int, hcell hv2 b (o + (Int.toNat ((gL : Nat) : Int)) * 2) = some (.int .i64 x) ∧ ∃ x2 : Int, hcell hv2 b ((o + (Int.toNat ((gL : Nat) : Int)) * 2) + 1) = some (.int .i64 x2) ∧ R (.bool ((x == ((-7) : Int)) && (x2 == (7 : Int)))) hv3)
    (R (.bool false) hv3)
theorem calls73 {h : Heap} {R : Value → Heap → Prop} (t : Int) (tA : Option Addr) (tL tC : Nat) (g : Int) (gA : Option Addr) (gL gC : Nat) (H : S73 t tA tL tC g gA gL gC h R) : CallsH Try.prog 73 #[.agg #[.int .i64 t, .slice tA tL tC], .agg #[.int .i64 g, .slice gA gL gC]] h R := by
  have e : S73 t tA tL tC g gA gL gC h R = FX (envX [2, 3] 24) { loops := [], joins := [], blocks := [], draws := [(1, ⟨20, false⟩)] } Try.f73 (Try.f73.body.getD .skip) [.agg #[.int .i64 t, .slice tA tL tC], .agg #[.int .i64 g, .slice gA gL gC]] h R := by kernel_rfl
  exact calls_of_FX (envX_ok _ _) Try.func73 (by kernel_rfl) (by kernel_rfl) (by kernel_rfl) (e ▸ H)
end Go.Proofs.Ytmcloipjlihhlaa
