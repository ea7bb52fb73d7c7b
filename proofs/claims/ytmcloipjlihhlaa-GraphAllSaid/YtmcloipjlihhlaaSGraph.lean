/- What is left to be shown of some functions: printed by program out of the loaded functions; tied to them by the kernel. Conditions: none. -/
import Derived.Test.YtmcloipjlihhlaaSEnv
import Derived.Test.YtmcloipjlihhlaaXDyn
namespace Go.Proofs.Ytmcloipjlihhlaa
open Go.X
set_option maxRecDepth 100000
set_option linter.unusedVariables false

/-- tracery/graph.New -/
def S161  (h : Heap) (R : Value → Heap → Prop) : Prop :=
  let hv : Heap := h.push (.cells #[.bool true, .slice none 0 0, .slice none 0 0, .int .i64 0, .int .i64 0, .slice none 0 0, .slice none 0 0, .int .i64 0] 204)
  R (.pointer (some (⟨h.size, 0, none⟩ : Addr))) hv
theorem calls161 {h : Heap} {R : Value → Heap → Prop}  (H : S161  h R) : CallsH Try.prog 161 #[] h R := by
  have e : S161  h R = FX (envX [] 3) { loops := [], joins := [], blocks := [], draws := [] } Try.f161 (Try.f161.body.getD .skip) [] h R := by kernel_rfl
  exact calls_of_FX (envX_ok _ _) Try.func161 (by kernel_rfl) (by kernel_rfl) (by kernel_rfl) (e ▸ H)
/-- (*tracery/graph.Graph).none -/
def S162 (gP : Option Addr) (h : Heap) (R : Value → Heap → Prop) : Prop :=
  cnd (Option.isNone gP)
    (R (.bool true) h)
    (∃ b o, gP = some ⟨b, o, none⟩ ∧ ∃ x : Bool, hcell h b o = some (.bool x) ∧ R (.bool (!x)) h)
theorem calls162 {h : Heap} {R : Value → Heap → Prop} (gP : Option Addr) (H : S162 gP h R) : CallsH Try.prog 162 #[.pointer gP] h R := by
  have e : S162 gP h R = FX (envX [] 12) { loops := [], joins := [], blocks := [], draws := [] } Try.f162 (Try.f162.body.getD .skip) [.pointer gP] h R := by kernel_rfl
  exact calls_of_FX (envX_ok _ _) Try.func162 (by kernel_rfl) (by kernel_rfl) (by kernel_rfl) (e ▸ H)
/-- (*tracery/graph.Graph).edge -/
def S163 (gP : Option Addr) (ev : Int) (h : Heap) (R : Value → Heap → Prop) : Prop :=
  cnd (decide (ev < (1 : Int)))
    (R (.pointer none) h)
    (∃ b o, gP = some ⟨b, o, none⟩ ∧ ∃ (xA : Option Addr) (xL xC : Nat), hcell h b (o + 2) = some (.slice xA xL xC) ∧ cnd (decide (ev > ((xL : Nat) : Int)))
       (R (.pointer none) h)
       (∃ b2 o2, gP = some ⟨b2, o2, none⟩ ∧ ∃ (xA2 : Option Addr) (xL2 xC2 : Nat), hcell h b2 (o2 + 2) = some (.slice xA2 xL2 xC2) ∧ ∃ b3 o3, xA2 = some ⟨b3, o3, none⟩ ∧ 0 ≤ (IntKind.i64.wrap (ev - (1 : Int))) ∧ (IntKind.i64.wrap (ev - (1 : Int))) < (xL2 : Nat) ∧ ∃ x : Bool, hcell h b3 ((o3 + (Int.toNat (IntKind.i64.wrap (ev - (1 : Int)))) * 3) + 2) = some (.bool x) ∧ cnd (!x)
          (R (.pointer none) h)
          (∃ b4 o4, gP = some ⟨b4, o4, none⟩ ∧ ∃ (xA3 : Option Addr) (xL3 xC3 : Nat), hcell h b4 (o4 + 2) = some (.slice xA3 xL3 xC3) ∧ ∃ b5 o5, xA3 = some ⟨b5, o5, none⟩ ∧ 0 ≤ (IntKind.i64.wrap (ev - (1 : Int))) ∧ (IntKind.i64.wrap (ev - (1 : Int))) < (xL3 : Nat) ∧ R (.pointer (some (⟨b5, (o5 + (Int.toNat (IntKind.i64.wrap (ev - (1 : Int)))) * 3), none⟩ : Addr))) h)))
theorem calls163 {h : Heap} {R : Value → Heap → Prop} (gP : Option Addr) (ev : Int) (H : S163 gP ev h R) : CallsH Try.prog 163 #[.pointer gP, .int .i64 ev] h R := by
  have e : S163 gP ev h R = FX (envX [] 35) { loops := [], joins := [], blocks := [], draws := [] } Try.f163 (Try.f163.body.getD .skip) [.pointer gP, .int .i64 ev] h R := by kernel_rfl
  exact calls_of_FX (envX_ok _ _) Try.func163 (by kernel_rfl) (by kernel_rfl) (by kernel_rfl) (e ▸ H)
/-- (*tracery/graph.Graph).addNode -/
def S164 (gP : Option Addr) (h : Heap) (R : Value → Heap → Prop) : Prop :=
  ∃ b o, gP = some ⟨b, o, none⟩ ∧ ∃ (xA : Option Addr) (xL xC : Nat), hcell h b (o + 1) = some (.slice xA xL xC) ∧ let hv : Heap := h.push (.cells #[.bool true] 4)
  ∃ old, Ownd hv 4 1 xA xL xC old ∧ (∀ b ∈ ([h.size] : List Nat), b ∉ blkOf xA) ∧ (xL + 1) * 1 ≤ 140737488355328 ∧ (xL + 1) ≤ maxLen ∧
  ∀ sA sC hv3, Ownd hv3 4 1 sA (xL + 1) sC (old ++ [.bool true]) → Fr (blkOf xA) hv hv3 → ((sA = xA ∧ sC = xC) ∨ ∃ g, sA = some ⟨g, 0, none⟩ ∧ hv.size ≤ g) → (xC < (xL + 1) → Fr [] hv hv3) →
  ∃ b2 o2, gP = some ⟨b2, o2, none⟩ ∧ b2 ≠ h.size ∧ (∃ u, hcell hv3 b2 (o2 + 1) = some u) ∧ hfree hv3 b2 (o2 + 1) = true ∧ let hv4 : Heap := hset hv3 b2 (o2 + 1) (.slice sA (xL + 1) sC)
  ∃ b3 o3, gP = some ⟨b3, o3, none⟩ ∧ ∃ x : Int, hcell hv4 b3 ((o3 + 3) + 0) = some (.int .i64 x) ∧ ∃ b4 o4, gP = some ⟨b4, o4, none⟩ ∧ b4 ≠ h.size ∧ (∃ u, hcell hv4 b4 ((o4 + 3) + 0) = some u) ∧ hfree hv4 b4 ((o4 + 3) + 0) = true ∧ let hv5 : Heap := hset hv4 b4 ((o4 + 3) + 0) (.int .i64 (IntKind.i64.wrap (x + (1 : Int))))
  callX Try.prog 211 #[.pointer gP, .func (.func 212) #[] #[]] hv5 [h.size] fun v hv6 =>
  v = .tuple #[] ∧
  ∃ b5 o5, gP = some ⟨b5, o5, none⟩ ∧ ∃ (xA2 : Option Addr) (xL2 xC2 : Nat), hcell hv6 b5 (o5 + 1) = some (.slice xA2 xL2 xC2) ∧ R (.int .i64 ((xL2 : Nat) : Int)) hv6
theorem calls164 {h : Heap} {R : Value → Heap → Prop} (gP : Option Addr) (H : S164 gP h R) : CallsH Try.prog 164 #[.pointer gP] h R := by
  have e : S164 gP h R = FX (envX [8] 28) { loops := [], joins := [], blocks := [], draws := [(2, ⟨9, false⟩)] } Try.f164 (Try.f164.body.getD .skip) [.pointer gP] h R := by kernel_rfl
  exact calls_of_FX (envX_ok _ _) Try.func164 (by kernel_rfl) (by kernel_rfl) (by kernel_rfl) (e ▸ H)
/-- (*tracery/graph.Graph).addEdge -/
def S165 (gP : Option Addr) (u : Int) (v : Int) (h : Heap) (R : Value → Heap → Prop) : Prop :=
  ∃ b o, gP = some ⟨b, o, none⟩ ∧ ∃ (xA : Option Addr) (xL xC : Nat), hcell h b (o + 2) = some (.slice xA xL xC) ∧ let hv : Heap := h.push (.cells #[.int .i64 u, .int .i64 v, .bool true] 199)
  ∃ old, Ownd hv 199 3 xA xL xC old ∧ (∀ b ∈ ([h.size] : List Nat), b ∉ blkOf xA) ∧ (xL + 1) * 24 ≤ 140737488355328 ∧ (xL + 1) ≤ maxLen ∧
  ∀ sA sC hv3, Ownd hv3 199 3 sA (xL + 1) sC (old ++ [.int .i64 u, .int .i64 v, .bool true]) → Fr (blkOf xA) hv hv3 → ((sA = xA ∧ sC = xC) ∨ ∃ g, sA = some ⟨g, 0, none⟩ ∧ hv.size ≤ g) → (xC < (xL + 1) → Fr [] hv hv3) →
  ∃ b2 o2, gP = some ⟨b2, o2, none⟩ ∧ b2 ≠ h.size ∧ (∃ u, hcell hv3 b2 (o2 + 2) = some u) ∧ hfree hv3 b2 (o2 + 2) = true ∧ let hv4 : Heap := hset hv3 b2 (o2 + 2) (.slice sA (xL + 1) sC)
  ∃ b3 o3, gP = some ⟨b3, o3, none⟩ ∧ ∃ x : Int, hcell hv4 b3 ((o3 + 3) + 1) = some (.int .i64 x) ∧ ∃ b4 o4, gP = some ⟨b4, o4, none⟩ ∧ b4 ≠ h.size ∧ (∃ u, hcell hv4 b4 ((o4 + 3) + 1) = some u) ∧ hfree hv4 b4 ((o4 + 3) + 1) = true ∧ let hv5 : Heap := hset hv4 b4 ((o4 + 3) + 1) (.int .i64 (IntKind.i64.wrap (x + (1 : Int))))
  callX Try.prog 211 #[.pointer gP, .func (.func 213) #[] #[]] hv5 [h.size] fun v2 hv6 =>
  v2 = .tuple #[] ∧
  ∃ b5 o5, gP = some ⟨b5, o5, none⟩ ∧ ∃ (xA2 : Option Addr) (xL2 xC2 : Nat), hcell hv6 b5 (o5 + 2) = some (.slice xA2 xL2 xC2) ∧ R (.int .i64 ((xL2 : Nat) : Int)) hv6
theorem calls165 {h : Heap} {R : Value → Heap → Prop} (gP : Option Addr) (u : Int) (v : Int) (H : S165 gP u v h R) : CallsH Try.prog 165 #[.pointer gP, .int .i64 u, .int .i64 v] h R := by
  have e : S165 gP u v h R = FX (envX [16] 36) { loops := [], joins := [], blocks := [], draws := [(2, ⟨9, false⟩)] } Try.f165 (Try.f165.body.getD .skip) [.pointer gP, .int .i64 u, .int .i64 v] h R := by kernel_rfl
  exact calls_of_FX (envX_ok _ _) Try.func165 (by kernel_rfl) (by kernel_rfl) (by kernel_rfl) (e ▸ H)
/-- (*tracery/graph.Graph).move -/
def S166 (gP : Option Addr) (ev : Int) (endv : Int) (v : Int) (h : Heap) (R : Value → Heap → Prop) : Prop :=
  let hv : Heap := h.push (.cells #[.int .i64 ev] 3)
  let hv2 : Heap := hv.push (.cells #[.int .i64 endv] 3)
  ∃ b o, gP = some ⟨b, o, none⟩ ∧ ∃ (xA : Option Addr) (xL xC : Nat), hcell hv2 b (o + 2) = some (.slice xA xL xC) ∧ ∃ x : Int, hcell hv2 h.size 0 = some (.int .i64 x) ∧ ∃ x2 : Int, hcell hv2 hv.size 0 = some (.int .i64 x2) ∧ ∃ b2 o2, xA = some ⟨b2, o2, none⟩ ∧ 0 ≤ (IntKind.i64.wrap (x - (1 : Int))) ∧ (IntKind.i64.wrap (x - (1 : Int))) < (xL : Nat) ∧ 0 ≤ x2 ∧ x2 < ((2 : Nat) : Int) ∧ ∃ x3 : Int, hcell hv2 b2 ((o2 + (Int.toNat (IntKind.i64.wrap (x - (1 : Int)))) * 3) + (Int.toNat x2) * 1) = some (.int .i64 x3) ∧ let hv3 : Heap := hv2.push (.cells #[.int .i64 0] 3)
  Fr [] hv2 hv3 ∧
  (∃ u, hcell hv3 hv2.size 0 = some u) ∧ hfree hv3 hv2.size 0 = true ∧ let hv4 : Heap := hset hv3 hv2.size 0 (.int .i64 x3)
  ∃ b3 o3, gP = some ⟨b3, o3, none⟩ ∧ ∃ (xA2 : Option Addr) (xL2 xC2 : Nat), hcell hv4 b3 (o3 + 2) = some (.slice xA2 xL2 xC2) ∧ ∃ x4 : Int, hcell hv4 h.size 0 = some (.int .i64 x4) ∧ ∃ x5 : Int, hcell hv4 hv.size 0 = some (.int .i64 x5) ∧ ∃ b4 o4, xA2 = some ⟨b4, o4, none⟩ ∧ 0 ≤ (IntKind.i64.wrap (x4 - (1 : Int))) ∧ (IntKind.i64.wrap (x4 - (1 : Int))) < (xL2 : Nat) ∧ 0 ≤ x5 ∧ x5 < ((2 : Nat) : Int) ∧ (∃ u, hcell hv4 b4 ((o4 + (Int.toNat (IntKind.i64.wrap (x4 - (1 : Int)))) * 3) + (Int.toNat x5) * 1) = some u) ∧ hfree hv4 b4 ((o4 + (Int.toNat (IntKind.i64.wrap (x4 - (1 : Int)))) * 3) + (Int.toNat x5) * 1) = true ∧ let hv5 : Heap := hset hv4 b4 ((o4 + (Int.toNat (IntKind.i64.wrap (x4 - (1 : Int)))) * 3) + (Int.toNat x5) * 1) (.int .i64 v)
  callX Try.prog 211 #[.pointer gP, .func (.func 214) #[] #[.pointer (some (⟨hv2.size, 0, none⟩ : Addr)), .pointer (some (⟨h.size, 0, none⟩ : Addr)), .pointer (some (⟨hv.size, 0, none⟩ : Addr))]] hv5 [] fun v2 hv6 =>
  v2 = .tuple #[] ∧
  R (.tuple #[]) hv6
theorem calls166 {h : Heap} {R : Value → Heap → Prop} (gP : Option Addr) (ev : Int) (endv : Int) (v : Int) (H : S166 gP ev endv v h R) : CallsH Try.prog 166 #[.pointer gP, .int .i64 ev, .int .i64 endv, .int .i64 v] h R := by
  have e : S166 gP ev endv v h R = FX (envX [] 34) { loops := [], joins := [], blocks := [], draws := [(1, ⟨12, false⟩), (2, ⟨11, false⟩)] } Try.f166 (Try.f166.body.getD .skip) [.pointer gP, .int .i64 ev, .int .i64 endv, .int .i64 v] h R := by kernel_rfl
  exact calls_of_FX (envX_ok _ _) Try.func166 (by kernel_rfl) (by kernel_rfl) (by kernel_rfl) (e ▸ H)
/-- (*tracery/graph.Graph).node -/
def S167 (gP : Option Addr) (v : Int) (h : Heap) (R : Value → Heap → Prop) : Prop :=
  cnd (decide (v ≥ (1 : Int)))
    (∃ b o, gP = some ⟨b, o, none⟩ ∧ ∃ (xA : Option Addr) (xL xC : Nat), hcell h b (o + 1) = some (.slice xA xL xC) ∧ cnd (decide (v ≤ ((xL : Nat) : Int)))
       (∃ b2 o2, gP = some ⟨b2, o2, none⟩ ∧ ∃ (xA2 : Option Addr) (xL2 xC2 : Nat), hcell h b2 (o2 + 1) = some (.slice xA2 xL2 xC2) ∧ ∃ b3 o3, xA2 = some ⟨b3, o3, none⟩ ∧ 0 ≤ (IntKind.i64.wrap (v - (1 : Int))) ∧ (IntKind.i64.wrap (v - (1 : Int))) < (xL2 : Nat) ∧ ∃ x : Bool, hcell h b3 (o3 + (Int.toNat (IntKind.i64.wrap (v - (1 : Int)))) * 1) = some (.bool x) ∧ R (.bool x) h)
       (R (.bool false) h))
    (R (.bool false) h)
theorem calls167 {h : Heap} {R : Value → Heap → Prop} (gP : Option Addr) (v : Int) (H : S167 gP v h R) : CallsH Try.prog 167 #[.pointer gP, .int .i64 v] h R := by
  have e : S167 gP v h R = FX (envX [] 26) { loops := [], joins := [], blocks := [], draws := [] } Try.f167 (Try.f167.body.getD .skip) [.pointer gP, .int .i64 v] h R := by kernel_rfl
  exact calls_of_FX (envX_ok _ _) Try.func167 (by kernel_rfl) (by kernel_rfl) (by kernel_rfl) (e ▸ H)
/-- (*tracery/graph.Graph).at -/
def S168 (gP : Option Addr) (v : Int) (h : Heap) (R : Value → Heap → Prop) : Prop :=
  ∃ b o, gP = some ⟨b, o, none⟩ ∧ ∃ (xA : Option Addr) (xL xC : Nat), hcell h b (o + 2) = some (.slice xA xL xC) ∧ ∃ (Iv : List Value → Heap → Prop) (m : List Value → Heap → Nat), Iv [.slice none 0 0, .int .i64 0] h ∧ -- loop 0: ['l', '13'] []
  ∀ (lA : Option Addr) (lL lC : Nat), ∀ x : Int, ∀ hv, Iv [.slice lA lL lC, .int .i64 x] hv →
  cnd (decide (x < ((xL : Nat) : Int)))
    (∃ b2 o2, xA = some ⟨b2, o2, none⟩ ∧ 0 ≤ x ∧ x < (xL : Nat) ∧ ∃ x2 : Int, hcell hv b2 (o2 + (Int.toNat x) * 3) = some (.int .i64 x2) ∧ ∃ x3 : Int, hcell hv b2 ((o2 + (Int.toNat x) * 3) + 1) = some (.int .i64 x3) ∧ ∃ x4 : Bool, hcell hv b2 (((o2 + (Int.toNat x) * 3) + 1) + 1) = some (.bool x4) ∧ let hv2 : Heap := hv.push (.cells #[.int .i64 0, .int .i64 0, .bool false] 199)
    let hv3 : Heap := hset (hset (hset hv2 hv.size 0 (.int .i64 x2)) hv.size (0 + 1) (.int .i64 x3)) hv.size ((0 + 1) + 1) (.bool x4)
    cnd x4
      (cnd (x2 == v)
        (let hv4 : Heap := hv3.push (.cells #[.int .i64 (IntKind.i64.wrap (x + (1 : Int)))] 3)
         ∃ old, Ownd hv4 3 1 lA lL lC old ∧ (∀ b ∈ ([hv3.size, hv.size] : List Nat), b ∉ blkOf lA) ∧ (lL + 1) * 8 ≤ 140737488355328 ∧ (lL + 1) ≤ maxLen ∧
         ∀ sA sC hv6, Ownd hv6 3 1 sA (lL + 1) sC (old ++ [.int .i64 (IntKind.i64.wrap (x + (1 : Int)))]) → Fr (blkOf lA) hv4 hv6 → ((sA = lA ∧ sC = lC) ∨ ∃ g, sA = some ⟨g, 0, none⟩ ∧ hv4.size ≤ g) → (lC < (lL + 1) → Fr [] hv4 hv6) →
         Iv [.slice sA (lL + 1) sC, .int .i64 (IntKind.i64.wrap (x + (1 : Int)))] hv6 ∧ m [.slice sA (lL + 1) sC, .int .i64 (IntKind.i64.wrap (x + (1 : Int)))] hv6 < m [.slice lA lL lC, .int .i64 x] hv)
        (∃ Jv : List Value → Heap → Prop, -- join 33 ['l'] []
         ( cnd (x3 == v)
            (let hv7 : Heap := hv3.push (.cells #[.int .i64 (IntKind.i64.wrap (x + (1 : Int)))] 3)
            ∃ old2, Ownd hv7 3 1 lA lL lC old2 ∧ (∀ b ∈ ([hv3.size, hv.size] : List Nat), b ∉ blkOf lA) ∧ (lL + 1) * 8 ≤ 140737488355328 ∧ (lL + 1) ≤ maxLen ∧
            ∀ sA2 sC2 hv9, Ownd hv9 3 1 sA2 (lL + 1) sC2 (old2 ++ [.int .i64 (IntKind.i64.wrap (x + (1 : Int)))]) → Fr (blkOf lA) hv7 hv9 → ((sA2 = lA ∧ sC2 = lC) ∨ ∃ g, sA2 = some ⟨g, 0, none⟩ ∧ hv7.size ≤ g) → (lC < (lL + 1) → Fr [] hv7 hv9) →
            Jv [.slice sA2 (lL + 1) sC2] hv9)
            (Jv [.slice lA lL lC] hv3)) ∧
         ∀ (lA2 : Option Addr) (lL2 lC2 : Nat), ∀ hv10, Jv [.slice lA2 lL2 lC2] hv10 →
         Iv [.slice lA2 lL2 lC2, .int .i64 (IntKind.i64.wrap (x + (1 : Int)))] hv10 ∧ m [.slice lA2 lL2 lC2, .int .i64 (IntKind.i64.wrap (x + (1 : Int)))] hv10 < m [.slice lA lL lC, .int .i64 x] hv))
      (Iv [.slice lA lL lC, .int .i64 (IntKind.i64.wrap (x + (1 : Int)))] hv3 ∧ m [.slice lA lL lC, .int .i64 (IntKind.i64.wrap (x + (1 : Int)))] hv3 < m [.slice lA lL lC, .int .i64 x] hv))
    (R (.slice lA lL lC) hv)
theorem calls168 {h : Heap} {R : Value → Heap → Prop} (gP : Option Addr) (v : Int) (H : S168 gP v h R) : CallsH Try.prog 168 #[.pointer gP, .int .i64 v] h R := by
  have e : S168 gP v h R = FX (envX [7, 37] 41) { loops := [(0, ⟨[1, 11, 12], [5, 13], [], []⟩)], joins := [(33, ⟨[1, 11, 12, 13], [5], [], []⟩)], blocks := [], draws := [] } Try.f168 (Try.f168.body.getD .skip) [.pointer gP, .int .i64 v] h R := by kernel_rfl
  exact calls_of_FX (envX_ok _ _) Try.func168 (by kernel_rfl) (by kernel_rfl) (by kernel_rfl) (e ▸ H)
/-- tracery/graph.loop -/
def S169 (eP : Option Addr) (h : Heap) (R : Value → Heap → Prop) : Prop :=
  ∃ b o, eP = some ⟨b, o, none⟩ ∧ ∃ x : Int, hcell h b (o + 0) = some (.int .i64 x) ∧ ∃ b2 o2, eP = some ⟨b2, o2, none⟩ ∧ ∃ x2 : Int, hcell h b2 (o2 + 1) = some (.int .i64 x2) ∧ R (.bool (x == x2)) h
theorem calls169 {h : Heap} {R : Value → Heap → Prop} (eP : Option Addr) (H : S169 eP h R) : CallsH Try.prog 169 #[.pointer eP] h R := by
  have e : S169 eP h R = FX (envX [] 14) { loops := [], joins := [], blocks := [], draws := [(1, ⟨12, false⟩)] } Try.f169 (Try.f169.body.getD .skip) [.pointer eP] h R := by kernel_rfl
  exact calls_of_FX (envX_ok _ _) Try.func169 (by kernel_rfl) (by kernel_rfl) (by kernel_rfl) (e ▸ H)
/-- (*tracery/graph.Graph).dropEdge -/
def S170 (gP : Option Addr) (ev : Int) (h : Heap) (R : Value → Heap → Prop) : Prop :=
  let hv : Heap := h.push (.cells #[.int .i64 ev] 3)
  ∃ b o, gP = some ⟨b, o, none⟩ ∧ ∃ (xA : Option Addr) (xL xC : Nat), hcell hv b (o + 2) = some (.slice xA xL xC) ∧ ∃ x : Int, hcell hv h.size 0 = some (.int .i64 x) ∧ ∃ b2 o2, xA = some ⟨b2, o2, none⟩ ∧ 0 ≤ (IntKind.i64.wrap (x - (1 : Int))) ∧ (IntKind.i64.wrap (x - (1 : Int))) < (xL : Nat) ∧ (∃ u, hcell hv b2 ((o2 + (Int.toNat (IntKind.i64.wrap (x - (1 : Int)))) * 3) + 2) = some u) ∧ hfree hv b2 ((o2 + (Int.toNat (IntKind.i64.wrap (x - (1 : Int)))) * 3) + 2) = true ∧ let hv2 : Heap := hset hv b2 ((o2 + (Int.toNat (IntKind.i64.wrap (x - (1 : Int)))) * 3) + 2) (.bool false)
  ∃ b3 o3, gP = some ⟨b3, o3, none⟩ ∧ ∃ x2 : Int, hcell hv2 b3 ((o3 + 3) + 1) = some (.int .i64 x2) ∧ ∃ b4 o4, gP = some ⟨b4, o4, none⟩ ∧ (∃ u, hcell hv2 b4 ((o4 + 3) + 1) = some u) ∧ hfree hv2 b4 ((o4 + 3) + 1) = true ∧ let hv3 : Heap := hset hv2 b4 ((o4 + 3) + 1) (.int .i64 (IntKind.i64.wrap (x2 - (1 : Int))))
  callX Try.prog 211 #[.pointer gP, .func (.func 215) #[] #[.pointer (some (⟨h.size, 0, none⟩ : Addr))]] hv3 [] fun v hv4 =>
  v = .tuple #[] ∧
  R (.tuple #[]) hv4
theorem calls170 {h : Heap} {R : Value → Heap → Prop} (gP : Option Addr) (ev : Int) (H : S170 gP ev h R) : CallsH Try.prog 170 #[.pointer gP, .int .i64 ev] h R := by
  have e : S170 gP ev h R = FX (envX [] 24) { loops := [], joins := [], blocks := [], draws := [(1, ⟨8, false⟩), (2, ⟨9, false⟩)] } Try.f170 (Try.f170.body.getD .skip) [.pointer gP, .int .i64 ev] h R := by kernel_rfl
  exact calls_of_FX (envX_ok _ _) Try.func170 (by kernel_rfl) (by kernel_rfl) (by kernel_rfl) (e ▸ H)
/-- (*tracery/graph.Graph).dropNode -/
def S171 (gP : Option Addr) (v : Int) (h : Heap) (R : Value → Heap → Prop) : Prop :=
  let hv : Heap := h.push (.cells #[.int .i64 v] 3)
  ∃ b o, gP = some ⟨b, o, none⟩ ∧ ∃ (xA : Option Addr) (xL xC : Nat), hcell hv b (o + 1) = some (.slice xA xL xC) ∧ ∃ x : Int, hcell hv h.size 0 = some (.int .i64 x) ∧ ∃ b2 o2, xA = some ⟨b2, o2, none⟩ ∧ 0 ≤ (IntKind.i64.wrap (x - (1 : Int))) ∧ (IntKind.i64.wrap (x - (1 : Int))) < (xL : Nat) ∧ (∃ u, hcell hv b2 (o2 + (Int.toNat (IntKind.i64.wrap (x - (1 : Int)))) * 1) = some u) ∧ hfree hv b2 (o2 + (Int.toNat (IntKind.i64.wrap (x - (1 : Int)))) * 1) = true ∧ let hv2 : Heap := hset hv b2 (o2 + (Int.toNat (IntKind.i64.wrap (x - (1 : Int)))) * 1) (.bool false)
  ∃ b3 o3, gP = some ⟨b3, o3, none⟩ ∧ ∃ x2 : Int, hcell hv2 b3 ((o3 + 3) + 0) = some (.int .i64 x2) ∧ ∃ b4 o4, gP = some ⟨b4, o4, none⟩ ∧ (∃ u, hcell hv2 b4 ((o4 + 3) + 0) = some u) ∧ hfree hv2 b4 ((o4 + 3) + 0) = true ∧ let hv3 : Heap := hset hv2 b4 ((o4 + 3) + 0) (.int .i64 (IntKind.i64.wrap (x2 - (1 : Int))))
  callX Try.prog 211 #[.pointer gP, .func (.func 216) #[] #[.pointer (some (⟨h.size, 0, none⟩ : Addr))]] hv3 [] fun v2 hv4 =>
  v2 = .tuple #[] ∧
  R (.tuple #[]) hv4
theorem calls171 {h : Heap} {R : Value → Heap → Prop} (gP : Option Addr) (v : Int) (H : S171 gP v h R) : CallsH Try.prog 171 #[.pointer gP, .int .i64 v] h R := by
  have e : S171 gP v h R = FX (envX [] 23) { loops := [], joins := [], blocks := [], draws := [(1, ⟨7, false⟩), (2, ⟨9, false⟩)] } Try.f171 (Try.f171.body.getD .skip) [.pointer gP, .int .i64 v] h R := by kernel_rfl
  exact calls_of_FX (envX_ok _ _) Try.func171 (by kernel_rfl) (by kernel_rfl) (by kernel_rfl) (e ▸ H)
/-- (*tracery/graph.Graph).did -/
def S211 (gP : Option Addr) (undoF : Fn) (undoX undoY : Array Value) (h : Heap) (R : Value → Heap → Prop) : Prop :=
  ∃ b o, gP = some ⟨b, o, none⟩ ∧ ∃ (xA : Option Addr) (xL xC : Nat), hcell h b (o + 6) = some (.slice xA xL xC) ∧ ∃ Jv : List Value → Heap → Prop, -- join 9 [] []
  ( cnd (decide (((xL : Nat) : Int) > (0 : Int)))
     (∃ b2 o2, gP = some ⟨b2, o2, none⟩ ∧ ∃ (xA2 : Option Addr) (xL2 xC2 : Nat), hcell h b2 (o2 + 5) = some (.slice xA2 xL2 xC2) ∧ let hv : Heap := h.push (.cells #[.func undoF undoX undoY] 227)
     ∃ old, Ownd hv 227 1 xA2 xL2 xC2 old ∧ (∀ b ∈ ([h.size] : List Nat), b ∉ blkOf xA2) ∧ (xL2 + 1) * 8 ≤ 140737488355328 ∧ (xL2 + 1) ≤ maxLen ∧
     ∀ sA sC hv3, Ownd hv3 227 1 sA (xL2 + 1) sC (old ++ [.func undoF undoX undoY]) → Fr (blkOf xA2) hv hv3 → ((sA = xA2 ∧ sC = xC2) ∨ ∃ g, sA = some ⟨g, 0, none⟩ ∧ hv.size ≤ g) → (xC2 < (xL2 + 1) → Fr [] hv hv3) →
     ∃ b3 o3, gP = some ⟨b3, o3, none⟩ ∧ b3 ≠ h.size ∧ (∃ u, hcell hv3 b3 (o3 + 5) = some u) ∧ hfree hv3 b3 (o3 + 5) = true ∧ let hv4 : Heap := hset hv3 b3 (o3 + 5) (.slice sA (xL2 + 1) sC)
     Jv [] hv4)
     (Jv [] h)) ∧
  ∀ hv5, Jv [] hv5 →
  R (.tuple #[]) hv5
theorem calls211 {h : Heap} {R : Value → Heap → Prop} (gP : Option Addr) (undoF : Fn) (undoX undoY : Array Value) (H : S211 gP undoF undoX undoY h R) : CallsH Try.prog 211 #[.pointer gP, .func undoF undoX undoY] h R := by
  have e : S211 gP undoF undoX undoY h R = FX (envX [16] 20) { loops := [], joins := [(9, ⟨[], [], [], []⟩)], blocks := [], draws := [] } Try.f211 (Try.f211.body.getD .skip) [.pointer gP, .func undoF undoX undoY] h R := by kernel_rfl
  exact calls_of_FX (envX_ok _ _) Try.func211 (by kernel_rfl) (by kernel_rfl) (by kernel_rfl) (e ▸ H)
/-- (*tracery/graph.Graph).addNode$1 -/
def S212 (gP : Option Addr) (h : Heap) (R : Value → Heap → Prop) : Prop :=
  ∃ b o, gP = some ⟨b, o, none⟩ ∧ ∃ (xA : Option Addr) (xL xC : Nat), hcell h b (o + 1) = some (.slice xA xL xC) ∧ ∃ b2 o2, gP = some ⟨b2, o2, none⟩ ∧ ∃ (xA2 : Option Addr) (xL2 xC2 : Nat), hcell h b2 (o2 + 1) = some (.slice xA2 xL2 xC2) ∧ 0 ≤ (IntKind.i64.wrap (((xL2 : Nat) : Int) - (1 : Int))) ∧ (IntKind.i64.wrap (((xL2 : Nat) : Int) - (1 : Int))) ≤ (xC : Nat) ∧ ∃ b3 o3, gP = some ⟨b3, o3, none⟩ ∧ (∃ u, hcell h b3 (o3 + 1) = some u) ∧ hfree h b3 (o3 + 1) = true ∧ let hv : Heap := hset h b3 (o3 + 1) (.slice (if xC = 0 then xA else Option.map (fun addr => Addr.add addr (0 * 1)) xA) ((Int.toNat (IntKind.i64.wrap (((xL2 : Nat) : Int) - (1 : Int)))) - 0) (xC - 0))
  ∃ b4 o4, gP = some ⟨b4, o4, none⟩ ∧ ∃ x : Int, hcell hv b4 ((o4 + 3) + 0) = some (.int .i64 x) ∧ ∃ b5 o5, gP = some ⟨b5, o5, none⟩ ∧ (∃ u, hcell hv b5 ((o5 + 3) + 0) = some u) ∧ hfree hv b5 ((o5 + 3) + 0) = true ∧ let hv2 : Heap := hset hv b5 ((o5 + 3) + 0) (.int .i64 (IntKind.i64.wrap (x - (1 : Int))))
  R (.tuple #[]) hv2
theorem calls212 {h : Heap} {R : Value → Heap → Prop} (gP : Option Addr) (H : S212 gP h R) : CallsH Try.prog 212 #[.pointer gP] h R := by
  have e : S212 gP h R = FX (envX [] 25) { loops := [], joins := [], blocks := [], draws := [(0, ⟨14, false⟩), (1, ⟨9, false⟩)] } Try.f212 (Try.f212.body.getD .skip) [.pointer gP] h R := by kernel_rfl
  exact calls_of_FX (envX_ok _ _) Try.func212 (by kernel_rfl) (by kernel_rfl) (by kernel_rfl) (e ▸ H)
/-- (*tracery/graph.Graph).addEdge$1 -/
def S213 (gP : Option Addr) (h : Heap) (R : Value → Heap → Prop) : Prop :=
  ∃ b o, gP = some ⟨b, o, none⟩ ∧ ∃ (xA : Option Addr) (xL xC : Nat), hcell h b (o + 2) = some (.slice xA xL xC) ∧ ∃ b2 o2, gP = some ⟨b2, o2, none⟩ ∧ ∃ (xA2 : Option Addr) (xL2 xC2 : Nat), hcell h b2 (o2 + 2) = some (.slice xA2 xL2 xC2) ∧ 0 ≤ (IntKind.i64.wrap (((xL2 : Nat) : Int) - (1 : Int))) ∧ (IntKind.i64.wrap (((xL2 : Nat) : Int) - (1 : Int))) ≤ (xC : Nat) ∧ ∃ b3 o3, gP = some ⟨b3, o3, none⟩ ∧ (∃ u, hcell h b3 (o3 + 2) = some u) ∧ hfree h b3 (o3 + 2) = true ∧ let hv : Heap := hset h b3 (o3 + 2) (.slice (if xC = 0 then xA else Option.map (fun addr => Addr.add addr (0 * 3)) xA) ((Int.toNat (IntKind.i64.wrap (((xL2 : Nat) : Int) - (1 : Int)))) - 0) (xC - 0))
  ∃ b4 o4, gP = some ⟨b4, o4, none⟩ ∧ ∃ x : Int, hcell hv b4 ((o4 + 3) + 1) = some (.int .i64 x) ∧ ∃ b5 o5, gP = some ⟨b5, o5, none⟩ ∧ (∃ u, hcell hv b5 ((o5 + 3) + 1) = some u) ∧ hfree hv b5 ((o5 + 3) + 1) = true ∧ let hv2 : Heap := hset hv b5 ((o5 + 3) + 1) (.int .i64 (IntKind.i64.wrap (x - (1 : Int))))
  R (.tuple #[]) hv2
theorem calls213 {h : Heap} {R : Value → Heap → Prop} (gP : Option Addr) (H : S213 gP h R) : CallsH Try.prog 213 #[.pointer gP] h R := by
  have e : S213 gP h R = FX (envX [] 25) { loops := [], joins := [], blocks := [], draws := [(0, ⟨14, false⟩), (1, ⟨9, false⟩)] } Try.f213 (Try.f213.body.getD .skip) [.pointer gP] h R := by kernel_rfl
  exact calls_of_FX (envX_ok _ _) Try.func213 (by kernel_rfl) (by kernel_rfl) (by kernel_rfl) (e ▸ H)
/-- (*tracery/graph.Graph).move$1 -/
def S214 (gP : Option Addr) (fv : Option Addr) (fv2 : Option Addr) (fv3 : Option Addr) (h : Heap) (R : Value → Heap → Prop) : Prop :=
  ∃ b o, gP = some ⟨b, o, none⟩ ∧ ∃ (xA : Option Addr) (xL xC : Nat), hcell h b (o + 2) = some (.slice xA xL xC) ∧ ∃ b2 o2, fv2 = some ⟨b2, o2, none⟩ ∧ ∃ x : Int, hcell h b2 o2 = some (.int .i64 x) ∧ ∃ b3 o3, fv3 = some ⟨b3, o3, none⟩ ∧ ∃ x2 : Int, hcell h b3 o3 = some (.int .i64 x2) ∧ ∃ b4 o4, fv = some ⟨b4, o4, none⟩ ∧ ∃ x3 : Int, hcell h b4 o4 = some (.int .i64 x3) ∧ ∃ b5 o5, xA = some ⟨b5, o5, none⟩ ∧ 0 ≤ (IntKind.i64.wrap (x - (1 : Int))) ∧ (IntKind.i64.wrap (x - (1 : Int))) < (xL : Nat) ∧ 0 ≤ x2 ∧ x2 < ((2 : Nat) : Int) ∧ (∃ u, hcell h b5 ((o5 + (Int.toNat (IntKind.i64.wrap (x - (1 : Int)))) * 3) + (Int.toNat x2) * 1) = some u) ∧ hfree h b5 ((o5 + (Int.toNat (IntKind.i64.wrap (x - (1 : Int)))) * 3) + (Int.toNat x2) * 1) = true ∧ let hv : Heap := hset h b5 ((o5 + (Int.toNat (IntKind.i64.wrap (x - (1 : Int)))) * 3) + (Int.toNat x2) * 1) (.int .i64 x3)
  R (.tuple #[]) hv
theorem calls214 {h : Heap} {R : Value → Heap → Prop} (gP : Option Addr) (fv : Option Addr) (fv2 : Option Addr) (fv3 : Option Addr) (H : S214 gP fv fv2 fv3 h R) : CallsH Try.prog 214 #[.pointer gP, .pointer fv, .pointer fv2, .pointer fv3] h R := by
  have e : S214 gP fv fv2 fv3 h R = FX (envX [] 16) { loops := [], joins := [], blocks := [], draws := [(0, ⟨11, false⟩)] } Try.f214 (Try.f214.body.getD .skip) [.pointer gP, .pointer fv, .pointer fv2, .pointer fv3] h R := by kernel_rfl
  exact calls_of_FX (envX_ok _ _) Try.func214 (by kernel_rfl) (by kernel_rfl) (by kernel_rfl) (e ▸ H)
/-- (*tracery/graph.Graph).dropEdge$1 -/
def S215 (gP : Option Addr) (fv : Option Addr) (h : Heap) (R : Value → Heap → Prop) : Prop :=
  ∃ b o, gP = some ⟨b, o, none⟩ ∧ ∃ (xA : Option Addr) (xL xC : Nat), hcell h b (o + 2) = some (.slice xA xL xC) ∧ ∃ b2 o2, fv = some ⟨b2, o2, none⟩ ∧ ∃ x : Int, hcell h b2 o2 = some (.int .i64 x) ∧ ∃ b3 o3, xA = some ⟨b3, o3, none⟩ ∧ 0 ≤ (IntKind.i64.wrap (x - (1 : Int))) ∧ (IntKind.i64.wrap (x - (1 : Int))) < (xL : Nat) ∧ (∃ u, hcell h b3 ((o3 + (Int.toNat (IntKind.i64.wrap (x - (1 : Int)))) * 3) + 2) = some u) ∧ hfree h b3 ((o3 + (Int.toNat (IntKind.i64.wrap (x - (1 : Int)))) * 3) + 2) = true ∧ let hv : Heap := hset h b3 ((o3 + (Int.toNat (IntKind.i64.wrap (x - (1 : Int)))) * 3) + 2) (.bool true)
  ∃ b4 o4, gP = some ⟨b4, o4, none⟩ ∧ ∃ x2 : Int, hcell hv b4 ((o4 + 3) + 1) = some (.int .i64 x2) ∧ ∃ b5 o5, gP = some ⟨b5, o5, none⟩ ∧ (∃ u, hcell hv b5 ((o5 + 3) + 1) = some u) ∧ hfree hv b5 ((o5 + 3) + 1) = true ∧ let hv2 : Heap := hset hv b5 ((o5 + 3) + 1) (.int .i64 (IntKind.i64.wrap (x2 + (1 : Int))))
  R (.tuple #[]) hv2
theorem calls215 {h : Heap} {R : Value → Heap → Prop} (gP : Option Addr) (fv : Option Addr) (H : S215 gP fv h R) : CallsH Try.prog 215 #[.pointer gP, .pointer fv] h R := by
  have e : S215 gP fv h R = FX (envX [] 20) { loops := [], joins := [], blocks := [], draws := [(0, ⟨8, false⟩), (1, ⟨9, false⟩)] } Try.f215 (Try.f215.body.getD .skip) [.pointer gP, .pointer fv] h R := by kernel_rfl
  exact calls_of_FX (envX_ok _ _) Try.func215 (by kernel_rfl) (by kernel_rfl) (by kernel_rfl) (e ▸ H)
/-- (*tracery/graph.Graph).dropNode$1 -/
def S216 (gP : Option Addr) (fv : Option Addr) (h : Heap) (R : Value → Heap → Prop) : Prop :=
  ∃ b o, gP = some ⟨b, o, none⟩ ∧ ∃ (xA : Option Addr) (xL xC : Nat), hcell h b (o + 1) = some (.slice xA xL xC) ∧ ∃ b2 o2, fv = some ⟨b2, o2, none⟩ ∧ ∃ x : Int, hcell h b2 o2 = some (.int .i64 x) ∧ ∃ b3 o3, xA = some ⟨b3, o3, none⟩ ∧ 0 ≤ (IntKind.i64.wrap (x - (1 : Int))) ∧ (IntKind.i64.wrap (x - (1 : Int))) < (xL : Nat) ∧ (∃ u, hcell h b3 (o3 + (Int.toNat (IntKind.i64.wrap (x - (1 : Int)))) * 1) = some u) ∧ hfree h b3 (o3 + (Int.toNat (IntKind.i64.wrap (x - (1 : Int)))) * 1) = true ∧ let hv : Heap := hset h b3 (o3 + (Int.toNat (IntKind.i64.wrap (x - (1 : Int)))) * 1) (.bool true)
  ∃ b4 o4, gP = some ⟨b4, o4, none⟩ ∧ ∃ x2 : Int, hcell hv b4 ((o4 + 3) + 0) = some (.int .i64 x2) ∧ ∃ b5 o5, gP = some ⟨b5, o5, none⟩ ∧ (∃ u, hcell hv b5 ((o5 + 3) + 0) = some u) ∧ hfree hv b5 ((o5 + 3) + 0) = true ∧ let hv2 : Heap := hset hv b5 ((o5 + 3) + 0) (.int .i64 (IntKind.i64.wrap (x2 + (1 : Int))))
  R (.tuple #[]) hv2
theorem calls216 {h : Heap} {R : Value → Heap → Prop} (gP : Option Addr) (fv : Option Addr) (H : S216 gP fv h R) : CallsH Try.prog 216 #[.pointer gP, .pointer fv] h R := by
  have e : S216 gP fv h R = FX (envX [] 19) { loops := [], joins := [], blocks := [], draws := [(0, ⟨7, false⟩), (1, ⟨9, false⟩)] } Try.f216 (Try.f216.body.getD .skip) [.pointer gP, .pointer fv] h R := by kernel_rfl
  exact calls_of_FX (envX_ok _ _) Try.func216 (by kernel_rfl) (by kernel_rfl) (by kernel_rfl) (e ▸ H)
/-- (*tracery/graph.Graph).Ends -/
def S76 (gP : Option Addr) (ev : Int) (h : Heap) (R : Value → Heap → Prop) : Prop :=
  callX Try.prog 162 #[.pointer gP] h [] fun v hv =>
  ∃ r : Bool, v = .bool r ∧
  cnd r
    (R (.tuple #[.int .i64 0, .int .i64 0, .int .i64 1]) hv)
    (callX Try.prog 163 #[.pointer gP, .int .i64 ev] hv [] fun v2 hv2 =>
    ∃ rP : Option Addr, v2 = .pointer rP ∧
    cnd (Option.isNone rP)
      (R (.tuple #[.int .i64 0, .int .i64 0, .int .i64 2]) hv2)
      (callX Try.prog 163 #[.pointer gP, .int .i64 ev] hv2 [] fun v3 hv3 =>
      ∃ rP2 : Option Addr, v3 = .pointer rP2 ∧
      ∃ b o, rP2 = some ⟨b, o, none⟩ ∧ ∃ x : Int, hcell hv3 b o = some (.int .i64 x) ∧ ∃ x2 : Int, hcell hv3 b (o + 1) = some (.int .i64 x2) ∧ let hv4 : Heap := hv3.push (.cells #[.int .i64 0, .int .i64 0] 35)
      let hv5 : Heap := hset (hset hv4 hv3.size 0 (.int .i64 x)) hv3.size (0 + 1) (.int .i64 x2)
      R (.tuple #[.int .i64 x, .int .i64 x2, .int .i64 0]) hv5))
theorem calls76 {h : Heap} {R : Value → Heap → Prop} (gP : Option Addr) (ev : Int) (H : S76 gP ev h R) : CallsH Try.prog 76 #[.pointer gP, .int .i64 ev] h R := by
  have e : S76 gP ev h R = FX (envX [7] 26) { loops := [], joins := [], blocks := [], draws := [(6, ⟨7, false⟩)] } Try.f76 (Try.f76.body.getD .skip) [.pointer gP, .int .i64 ev] h R := by kernel_rfl
  exact calls_of_FX (envX_ok _ _) Try.func76 (by kernel_rfl) (by kernel_rfl) (by kernel_rfl) (e ▸ H)
/-- (*tracery/graph.Graph).Split -/
def S77 (gP : Option Addr) (ev : Int) (h : Heap) (R : Value → Heap → Prop) : Prop :=
  callX Try.prog 162 #[.pointer gP] h [] fun v hv =>
  ∃ r : Bool, v = .bool r ∧
  cnd r
    (R (.tuple #[.int .i64 0, .int .i64 0, .int .i64 1]) hv)
    (callX Try.prog 163 #[.pointer gP, .int .i64 ev] hv [] fun v2 hv2 =>
    ∃ rP : Option Addr, v2 = .pointer rP ∧
    cnd (Option.isNone rP)
      (R (.tuple #[.int .i64 0, .int .i64 0, .int .i64 2]) hv2)
      (∃ b o, gP = some ⟨b, o, none⟩ ∧ ∃ x : Int, hcell hv2 b ((o + 3) + 0) = some (.int .i64 x) ∧ cnd (decide (x ≥ (1024 : Int)))
        (R (.tuple #[.int .i64 0, .int .i64 0, .int .i64 3]) hv2)
        (∃ b2 o2, gP = some ⟨b2, o2, none⟩ ∧ ∃ x2 : Int, hcell hv2 b2 ((o2 + 3) + 1) = some (.int .i64 x2) ∧ cnd (decide (x2 ≥ (3072 : Int)))
           (R (.tuple #[.int .i64 0, .int .i64 0, .int .i64 3]) hv2)
           (callX Try.prog 163 #[.pointer gP, .int .i64 ev] hv2 [] fun v3 hv3 =>
           ∃ rP2 : Option Addr, v3 = .pointer rP2 ∧
           ∃ b3 o3, rP2 = some ⟨b3, o3, none⟩ ∧ ∃ x3 : Int, hcell hv3 b3 (o3 + 1) = some (.int .i64 x3) ∧ callX Try.prog 164 #[.pointer gP] hv3 [] fun v4 hv4 =>
           ∃ r2 : Int, v4 = .int .i64 r2 ∧
           callX Try.prog 165 #[.pointer gP, .int .i64 r2, .int .i64 x3] hv4 [] fun v5 hv5 =>
           ∃ r3 : Int, v5 = .int .i64 r3 ∧
           callX Try.prog 166 #[.pointer gP, .int .i64 ev, .int .i64 1, .int .i64 r2] hv5 [] fun v6 hv6 =>
           v6 = .tuple #[] ∧
           R (.tuple #[.int .i64 r2, .int .i64 r3, .int .i64 0]) hv6))))
theorem calls77 {h : Heap} {R : Value → Heap → Prop} (gP : Option Addr) (ev : Int) (H : S77 gP ev h R) : CallsH Try.prog 77 #[.pointer gP, .int .i64 ev] h R := by
  have e : S77 gP ev h R = FX (envX [] 52) { loops := [], joins := [], blocks := [], draws := [] } Try.f77 (Try.f77.body.getD .skip) [.pointer gP, .int .i64 ev] h R := by kernel_rfl
  exact calls_of_FX (envX_ok _ _) Try.func77 (by kernel_rfl) (by kernel_rfl) (by kernel_rfl) (e ▸ H)
/-- (*tracery/graph.Graph).Unsplit -/
def S78 (gP : Option Addr) (v : Int) (h : Heap) (R : Value → Heap → Prop) : Prop :=
  callX Try.prog 162 #[.pointer gP] h [] fun v2 hv =>
  ∃ r : Bool, v2 = .bool r ∧
  cnd r
    (R (.tuple #[.int .i64 0, .int .i64 1]) hv)
    (callX Try.prog 167 #[.pointer gP, .int .i64 v] hv [] fun v3 hv2 =>
    ∃ r2 : Bool, v3 = .bool r2 ∧
    cnd (!r2)
      (R (.tuple #[.int .i64 0, .int .i64 2]) hv2)
      (callX Try.prog 168 #[.pointer gP, .int .i64 v] hv2 [] fun v4 hv3 =>
      ∃ (rA : Option Addr) (rL rC : Nat), v4 = .slice rA rL rC ∧
      cnd (((rL : Nat) : Int) != (2 : Int))
        (R (.tuple #[.int .i64 0, .int .i64 10]) hv3)
        (∃ b o, rA = some ⟨b, o, none⟩ ∧ 0 ≤ (0 : Int) ∧ (0 : Int) < (rL : Nat) ∧ ∃ x : Int, hcell hv3 b (o + (Int.toNat (0 : Int)) * 1) = some (.int .i64 x) ∧ callX Try.prog 163 #[.pointer gP, .int .i64 x] hv3 [] fun v5 hv4 =>
        ∃ rP : Option Addr, v5 = .pointer rP ∧
        callX Try.prog 169 #[.pointer rP] hv4 [] fun v6 hv5 =>
        ∃ r3 : Bool, v6 = .bool r3 ∧
        cnd r3
          (R (.tuple #[.int .i64 0, .int .i64 10]) hv5)
          (∃ b2 o2, rA = some ⟨b2, o2, none⟩ ∧ 0 ≤ (1 : Int) ∧ (1 : Int) < (rL : Nat) ∧ ∃ x2 : Int, hcell hv5 b2 (o2 + (Int.toNat (1 : Int)) * 1) = some (.int .i64 x2) ∧ callX Try.prog 163 #[.pointer gP, .int .i64 x2] hv5 [] fun v7 hv6 =>
          ∃ rP2 : Option Addr, v7 = .pointer rP2 ∧
          callX Try.prog 169 #[.pointer rP2] hv6 [] fun v8 hv7 =>
          ∃ r4 : Bool, v8 = .bool r4 ∧
          cnd r4
            (R (.tuple #[.int .i64 0, .int .i64 10]) hv7)
            (∃ b3 o3, rA = some ⟨b3, o3, none⟩ ∧ 0 ≤ (1 : Int) ∧ (1 : Int) < (rL : Nat) ∧ ∃ x3 : Int, hcell hv7 b3 (o3 + (Int.toNat (1 : Int)) * 1) = some (.int .i64 x3) ∧ callX Try.prog 163 #[.pointer gP, .int .i64 x3] hv7 [] fun v9 hv8 =>
            ∃ rP3 : Option Addr, v9 = .pointer rP3 ∧
            ∃ b4 o4, rP3 = some ⟨b4, o4, none⟩ ∧ ∃ x4 : Int, hcell hv8 b4 o4 = some (.int .i64 x4) ∧ ∃ x5 : Int, hcell hv8 b4 (o4 + 1) = some (.int .i64 x5) ∧ let hv9 : Heap := hv8.push (.cells #[.int .i64 0, .int .i64 0] 35)
            let hv10 : Heap := hset (hset hv9 hv8.size 0 (.int .i64 x4)) hv8.size (0 + 1) (.int .i64 x5)
            ∃ b5 o5, rA = some ⟨b5, o5, none⟩ ∧ 0 ≤ (0 : Int) ∧ (0 : Int) < (rL : Nat) ∧ ∃ x6 : Int, hcell hv10 b5 (o5 + (Int.toNat (0 : Int)) * 1) = some (.int .i64 x6) ∧ callX Try.prog 163 #[.pointer gP, .int .i64 x6] hv10 [hv8.size] fun v10 hv11 =>
            ∃ rP4 : Option Addr, v10 = .pointer rP4 ∧
            ∃ b6 o6, rP4 = some ⟨b6, o6, none⟩ ∧ ∃ x7 : Int, hcell hv11 b6 (o6 + 1) = some (.int .i64 x7) ∧ ∃ Jv : List Value → Heap → Prop, -- join 65 ['end'] []
            ( cnd (x7 == v)
               (Jv [.int .i64 1] hv11)
               (Jv [.int .i64 0] hv11)) ∧
            ∀ endv : Int, ∀ hv12, Jv [.int .i64 endv] hv12 →
            ∃ b7 o7, rA = some ⟨b7, o7, none⟩ ∧ 0 ≤ (0 : Int) ∧ (0 : Int) < (rL : Nat) ∧ ∃ x8 : Int, hcell hv12 b7 (o7 + (Int.toNat (0 : Int)) * 1) = some (.int .i64 x8) ∧ callX Try.prog 166 #[.pointer gP, .int .i64 x8, .int .i64 endv, .int .i64 (IntKind.i64.wrap ((IntKind.i64.wrap (x4 + x5)) - v))] hv12 [] fun v11 hv13 =>
            v11 = .tuple #[] ∧
            ∃ b8 o8, rA = some ⟨b8, o8, none⟩ ∧ 0 ≤ (1 : Int) ∧ (1 : Int) < (rL : Nat) ∧ ∃ x9 : Int, hcell hv13 b8 (o8 + (Int.toNat (1 : Int)) * 1) = some (.int .i64 x9) ∧ callX Try.prog 170 #[.pointer gP, .int .i64 x9] hv13 [] fun v12 hv14 =>
            v12 = .tuple #[] ∧
            callX Try.prog 171 #[.pointer gP, .int .i64 v] hv14 [] fun v13 hv15 =>
            v13 = .tuple #[] ∧
            ∃ b9 o9, rA = some ⟨b9, o9, none⟩ ∧ 0 ≤ (0 : Int) ∧ (0 : Int) < (rL : Nat) ∧ ∃ x10 : Int, hcell hv15 b9 (o9 + (Int.toNat (0 : Int)) * 1) = some (.int .i64 x10) ∧ R (.tuple #[.int .i64 x10, .int .i64 0]) hv15)))))
theorem calls78 {h : Heap} {R : Value → Heap → Prop} (gP : Option Addr) (v : Int) (H : S78 gP v h R) : CallsH Try.prog 78 #[.pointer gP, .int .i64 v] h R := by
  have e : S78 gP v h R = FX (envX [7] 84) { loops := [], joins := [(65, ⟨[0, 1, 6, 8], [9], [], []⟩)], blocks := [], draws := [] } Try.f78 (Try.f78.body.getD .skip) [.pointer gP, .int .i64 v] h R := by kernel_rfl
  exact calls_of_FX (envX_ok _ _) Try.func78 (by kernel_rfl) (by kernel_rfl) (by kernel_rfl) (e ▸ H)
/-- (*tracery/graph.Graph).Net -/
def S79 (gP : Option Addr) (h : Heap) (R : Value → Heap → Prop) : Prop :=
  let hv : Heap := h.push (.cells #[.int .i64 0, .slice none 0 0] 26)
  callX Try.prog 162 #[.pointer gP] hv [h.size] fun v hv2 =>
  ∃ r : Bool, v = .bool r ∧
  cnd r
    (let hv3 : Heap := hset (hset hv2 h.size 0 (.int .i64 0)) h.size (0 + 1) (.slice none 0 0)
    R (.tuple #[.agg #[.int .i64 0, .slice none 0 0], .slice none 0 0, .slice none 0 0]) hv3)
    (let hv4 : Heap := hv2.push (.cells #[.int .i64 0, .slice none 0 0] 26)
    ∃ b o, gP = some ⟨b, o, none⟩ ∧ ∃ (xA : Option Addr) (xL xC : Nat), hcell hv4 b (o + 1) = some (.slice xA xL xC) ∧ 0 ≤ (IntKind.i64.wrap (((xL : Nat) : Int) + (1 : Int))) ∧ (IntKind.i64.wrap (((xL : Nat) : Int) + (1 : Int))) ≤ (IntKind.i64.wrap (((xL : Nat) : Int) + (1 : Int))) ∧ ((8 : Nat) : Int) * (IntKind.i64.wrap (((xL : Nat) : Int) + (1 : Int))) ≤ 281474976710656 ∧ (IntKind.i64.wrap (((xL : Nat) : Int) + (1 : Int))) ≤ 9223372036854775807 ∧ let hv5 : Heap := hv4.push (.cells (madeCells (List.toArray [.int .i64 0]) (Int.toNat (IntKind.i64.wrap (((xL : Nat) : Int) + (1 : Int))) * 1)) 3)
    ∃ b2 o2, gP = some ⟨b2, o2, none⟩ ∧ ∃ (xA2 : Option Addr) (xL2 xC2 : Nat), hcell hv5 b2 (o2 + 1) = some (.slice xA2 xL2 xC2) ∧ ∃ (Iv : List Value → Heap → Prop) (m : List Value → Heap → Nat), Iv [.slice none 0 0, .int .i64 0, .int .i64 0, .slice none 0 0] hv5 ∧ -- loop 0: ['nodes', '28'] [5]
    ∀ (nodesA : Option Addr) (nodesL nodesC : Nat), ∀ x : Int, ∀ c0 : Int, ∀ (c1A : Option Addr) (c1L c1C : Nat), ∀ hv6, Iv [.slice nodesA nodesL nodesC, .int .i64 x, .int .i64 c0, .slice c1A c1L c1C] hv6 →
    cnd (decide (x < ((xL2 : Nat) : Int)))
      (∃ b3 o3, xA2 = some ⟨b3, o3, none⟩ ∧ 0 ≤ x ∧ x < (xL2 : Nat) ∧ ∃ x2 : Bool, hcell hv6 b3 (o3 + (Int.toNat x) * 1) = some (.bool x2) ∧ ∃ Jv : List Value → Heap → Prop, -- join 33 ['nodes'] [5]
      ( cnd x2
         (∃ b4 o4, (some (⟨hv4.size, 0, none⟩ : Addr)) = some ⟨b4, o4, none⟩ ∧ 0 ≤ (IntKind.i64.wrap (x + (1 : Int))) ∧ (IntKind.i64.wrap (x + (1 : Int))) < ((Int.toNat (IntKind.i64.wrap (((xL : Nat) : Int) + (1 : Int)))) : Nat) ∧ b4 ≠ hv2.size ∧ b4 ≠ h.size ∧ (∃ u, hcell hv6 b4 (o4 + (Int.toNat (IntKind.i64.wrap (x + (1 : Int)))) * 1) = some u) ∧ hfree hv6 b4 (o4 + (Int.toNat (IntKind.i64.wrap (x + (1 : Int)))) * 1) = true ∧ let hv7 : Heap := hset hv6 b4 (o4 + (Int.toNat (IntKind.i64.wrap (x + (1 : Int)))) * 1) (.int .i64 c0)
         let hv8 : Heap := hset hv7 hv2.size 0 (.int .i64 (IntKind.i64.wrap (c0 + (1 : Int))))
         let hv9 : Heap := hv8.push (.cells #[.int .i64 (IntKind.i64.wrap (x + (1 : Int)))] 3)
         ∃ old, Ownd hv9 3 1 nodesA nodesL nodesC old ∧ (∀ b ∈ ([hv8.size, hv2.size, h.size] : List Nat), b ∉ blkOf nodesA) ∧ (nodesL + 1) * 8 ≤ 140737488355328 ∧ (nodesL + 1) ≤ maxLen ∧
         ∀ sA sC hv11, Ownd hv11 3 1 sA (nodesL + 1) sC (old ++ [.int .i64 (IntKind.i64.wrap (x + (1 : Int)))]) → Fr (blkOf nodesA) hv9 hv11 → ((sA = nodesA ∧ sC = nodesC) ∨ ∃ g, sA = some ⟨g, 0, none⟩ ∧ hv9.size ≤ g) → (nodesC < (nodesL + 1) → Fr [] hv9 hv11) →
         Jv [.slice sA (nodesL + 1) sC, .int .i64 (IntKind.i64.wrap (c0 + (1 : Int))), .slice c1A c1L c1C] hv11)
         (Jv [.slice nodesA nodesL nodesC, .int .i64 c0, .slice c1A c1L c1C] hv6)) ∧
      ∀ (nodesA2 : Option Addr) (nodesL2 nodesC2 : Nat), ∀ c0_2 : Int, ∀ (c1A2 : Option Addr) (c1L2 c1C2 : Nat), ∀ hv12, Jv [.slice nodesA2 nodesL2 nodesC2, .int .i64 c0_2, .slice c1A2 c1L2 c1C2] hv12 →
      Iv [.slice nodesA2 nodesL2 nodesC2, .int .i64 (IntKind.i64.wrap (x + (1 : Int))), .int .i64 c0_2, .slice c1A2 c1L2 c1C2] hv12 ∧ m [.slice nodesA2 nodesL2 nodesC2, .int .i64 (IntKind.i64.wrap (x + (1 : Int))), .int .i64 c0_2, .slice c1A2 c1L2 c1C2] hv12 < m [.slice nodesA nodesL nodesC, .int .i64 x, .int .i64 c0, .slice c1A c1L c1C] hv6)
      (∃ b5 o5, gP = some ⟨b5, o5, none⟩ ∧ ∃ (xA3 : Option Addr) (xL3 xC3 : Nat), hcell hv6 b5 (o5 + 2) = some (.slice xA3 xL3 xC3) ∧ ∃ (Iv2 : List Value → Heap → Prop) (m2 : List Value → Heap → Nat), Iv2 [.slice none 0 0, .int .i64 0, .int .i64 c0, .slice c1A c1L c1C] hv6 ∧ -- loop 2: ['edges', '55'] [5]
      ∀ (edgesA : Option Addr) (edgesL edgesC : Nat), ∀ x3 : Int, ∀ c0_3 : Int, ∀ (c1A3 : Option Addr) (c1L3 c1C3 : Nat), ∀ hv13, Iv2 [.slice edgesA edgesL edgesC, .int .i64 x3, .int .i64 c0_3, .slice c1A3 c1L3 c1C3] hv13 →
      cnd (decide (x3 < ((xL3 : Nat) : Int)))
        (∃ b6 o6, xA3 = some ⟨b6, o6, none⟩ ∧ 0 ≤ x3 ∧ x3 < (xL3 : Nat) ∧ ∃ x4 : Int, hcell hv13 b6 (o6 + (Int.toNat x3) * 3) = some (.int .i64 x4) ∧ ∃ x5 : Int, hcell hv13 b6 ((o6 + (Int.toNat x3) * 3) + 1) = some (.int .i64 x5) ∧ ∃ x6 : Bool, hcell hv13 b6 (((o6 + (Int.toNat x3) * 3) + 1) + 1) = some (.bool x6) ∧ let hv14 : Heap := hv13.push (.cells #[.int .i64 0, .int .i64 0, .bool false] 199)
        let hv15 : Heap := hset (hset (hset hv14 hv13.size 0 (.int .i64 x4)) hv13.size (0 + 1) (.int .i64 x5)) hv13.size ((0 + 1) + 1) (.bool x6)
        ∃ Jv2 : List Value → Heap → Prop, -- join 61 ['edges'] [5]
        ( cnd x6
           (∃ b7 o7, (some (⟨hv4.size, 0, none⟩ : Addr)) = some ⟨b7, o7, none⟩ ∧ 0 ≤ x4 ∧ x4 < ((Int.toNat (IntKind.i64.wrap (((xL : Nat) : Int) + (1 : Int)))) : Nat) ∧ ∃ x7 : Int, hcell hv15 b7 (o7 + (Int.toNat x4) * 1) = some (.int .i64 x7) ∧ ∃ b8 o8, (some (⟨hv4.size, 0, none⟩ : Addr)) = some ⟨b8, o8, none⟩ ∧ 0 ≤ x5 ∧ x5 < ((Int.toNat (IntKind.i64.wrap (((xL : Nat) : Int) + (1 : Int)))) : Nat) ∧ ∃ x8 : Int, hcell hv15 b8 (o8 + (Int.toNat x5) * 1) = some (.int .i64 x8) ∧ let hv16 : Heap := hv15.push (.cells #[.int .i64 x7, .int .i64 x8] 35)
           Fr [] hv15 hv16 ∧
           ∃ old2, Ownd hv16 35 2 c1A3 c1L3 c1C3 old2 ∧ (∀ b ∈ ([hv15.size, hv13.size, hv2.size, h.size] : List Nat), b ∉ blkOf c1A3) ∧ (c1L3 + 1) * 16 ≤ 140737488355328 ∧ (c1L3 + 1) ≤ maxLen ∧
           ∀ sA2 sC2 hv18, Ownd hv18 35 2 sA2 (c1L3 + 1) sC2 (old2 ++ [.int .i64 x7, .int .i64 x8]) → Fr (blkOf c1A3) hv16 hv18 → ((sA2 = c1A3 ∧ sC2 = c1C3) ∨ ∃ g, sA2 = some ⟨g, 0, none⟩ ∧ hv16.size ≤ g) → (c1C3 < (c1L3 + 1) → Fr [] hv16 hv18) →
           let hv19 : Heap := hset hv18 hv2.size 1 (.slice sA2 (c1L3 + 1) sC2)
           let hv20 : Heap := hv19.push (.cells #[.int .i64 (IntKind.i64.wrap (x3 + (1 : Int)))] 3)
           ∃ old3, Ownd hv20 3 1 edgesA edgesL edgesC old3 ∧ (∀ b ∈ ([hv19.size, hv15.size, hv13.size, hv2.size, h.size] : List Nat), b ∉ blkOf edgesA) ∧ (edgesL + 1) * 8 ≤ 140737488355328 ∧ (edgesL + 1) ≤ maxLen ∧
           ∀ sA3 sC3 hv22, Ownd hv22 3 1 sA3 (edgesL + 1) sC3 (old3 ++ [.int .i64 (IntKind.i64.wrap (x3 + (1 : Int)))]) → Fr (blkOf edgesA) hv20 hv22 → ((sA3 = edgesA ∧ sC3 = edgesC) ∨ ∃ g, sA3 = some ⟨g, 0, none⟩ ∧ hv20.size ≤ g) → (edgesC < (edgesL + 1) → Fr [] hv20 hv22) →
           Jv2 [.slice sA3 (edgesL + 1) sC3, .int .i64 c0_3, .slice sA2 (c1L3 + 1) sC2] hv22)
           (Jv2 [.slice edgesA edgesL edgesC, .int .i64 c0_3, .slice c1A3 c1L3 c1C3] hv15)) ∧
        ∀ (edgesA2 : Option Addr) (edgesL2 edgesC2 : Nat), ∀ c0_4 : Int, ∀ (c1A4 : Option Addr) (c1L4 c1C4 : Nat), ∀ hv23, Jv2 [.slice edgesA2 edgesL2 edgesC2, .int .i64 c0_4, .slice c1A4 c1L4 c1C4] hv23 →
        Iv2 [.slice edgesA2 edgesL2 edgesC2, .int .i64 (IntKind.i64.wrap (x3 + (1 : Int))), .int .i64 c0_4, .slice c1A4 c1L4 c1C4] hv23 ∧ m2 [.slice edgesA2 edgesL2 edgesC2, .int .i64 (IntKind.i64.wrap (x3 + (1 : Int))), .int .i64 c0_4, .slice c1A4 c1L4 c1C4] hv23 < m2 [.slice edgesA edgesL edgesC, .int .i64 x3, .int .i64 c0_3, .slice c1A3 c1L3 c1C3] hv13)
        (let hv24 : Heap := hset (hset hv13 h.size 0 (.int .i64 c0_3)) h.size (0 + 1) (.slice c1A3 c1L3 c1C3)
        R (.tuple #[.agg #[.int .i64 c0_3, .slice c1A3 c1L3 c1C3], .slice nodesA nodesL nodesC, .slice edgesA edgesL edgesC]) hv24)))
theorem calls79 {h : Heap} {R : Value → Heap → Prop} (gP : Option Addr) (H : S79 gP h R) : CallsH Try.prog 79 #[.pointer gP] h R := by
  have e : S79 gP h R = FX (envX [2, 5, 12, 47, 77, 83] 89) { loops := [(0, ⟨[0, 2, 5, 7, 8, 26, 27], [6, 28], [2], [5]⟩), (2, ⟨[2, 5, 6, 8, 53, 54], [7, 55], [2], [5]⟩)], joins := [(33, ⟨[0, 2, 5, 7, 8, 26, 27, 28], [6], [2], [5]⟩), (61, ⟨[2, 5, 6, 8, 53, 54, 55], [7], [2], [5]⟩)], blocks := [], draws := [(18, ⟨16, false⟩)] } Try.f79 (Try.f79.body.getD .skip) [.pointer gP] h R := by kernel_rfl
  exact calls_of_FX (envX_ok _ _) Try.func79 (by kernel_rfl) (by kernel_rfl) (by kernel_rfl) (e ▸ H)
/-- (*tracery/graph.Graph).AddNode -/
def S97 (gP : Option Addr) (h : Heap) (R : Value → Heap → Prop) : Prop :=
  callX Try.prog 162 #[.pointer gP] h [] fun v hv =>
  ∃ r : Bool, v = .bool r ∧
  cnd r
    (R (.tuple #[.int .i64 0, .int .i64 1]) hv)
    (∃ b o, gP = some ⟨b, o, none⟩ ∧ ∃ x : Int, hcell hv b ((o + 3) + 0) = some (.int .i64 x) ∧ cnd (decide (x ≥ (1024 : Int)))
      (R (.tuple #[.int .i64 0, .int .i64 3]) hv)
      (callX Try.prog 164 #[.pointer gP] hv [] fun v2 hv2 =>
      ∃ r2 : Int, v2 = .int .i64 r2 ∧
      R (.tuple #[.int .i64 r2, .int .i64 0]) hv2))
theorem calls97 {h : Heap} {R : Value → Heap → Prop} (gP : Option Addr) (H : S97 gP h R) : CallsH Try.prog 97 #[.pointer gP] h R := by
  have e : S97 gP h R = FX (envX [] 16) { loops := [], joins := [], blocks := [], draws := [] } Try.f97 (Try.f97.body.getD .skip) [.pointer gP] h R := by kernel_rfl
  exact calls_of_FX (envX_ok _ _) Try.func97 (by kernel_rfl) (by kernel_rfl) (by kernel_rfl) (e ▸ H)
/-- (*tracery/graph.Graph).AddEdge -/
def S98 (gP : Option Addr) (u : Int) (v : Int) (h : Heap) (R : Value → Heap → Prop) : Prop :=
  callX Try.prog 162 #[.pointer gP] h [] fun v2 hv =>
  ∃ r : Bool, v2 = .bool r ∧
  cnd r
    (R (.tuple #[.int .i64 0, .int .i64 1]) hv)
    (callX Try.prog 167 #[.pointer gP, .int .i64 u] hv [] fun v3 hv2 =>
    ∃ r2 : Bool, v3 = .bool r2 ∧
    cnd (!r2)
      (R (.tuple #[.int .i64 0, .int .i64 2]) hv2)
      (callX Try.prog 167 #[.pointer gP, .int .i64 v] hv2 [] fun v4 hv3 =>
      ∃ r3 : Bool, v4 = .bool r3 ∧
      cnd (!r3)
        (R (.tuple #[.int .i64 0, .int .i64 2]) hv3)
        (∃ b o, gP = some ⟨b, o, none⟩ ∧ ∃ x : Int, hcell hv3 b ((o + 3) + 1) = some (.int .i64 x) ∧ cnd (decide (x ≥ (3072 : Int)))
          (R (.tuple #[.int .i64 0, .int .i64 3]) hv3)
          (callX Try.prog 165 #[.pointer gP, .int .i64 u, .int .i64 v] hv3 [] fun v5 hv4 =>
          ∃ r4 : Int, v5 = .int .i64 r4 ∧
          R (.tuple #[.int .i64 r4, .int .i64 0]) hv4))))
theorem calls98 {h : Heap} {R : Value → Heap → Prop} (gP : Option Addr) (u : Int) (v : Int) (H : S98 gP u v h R) : CallsH Try.prog 98 #[.pointer gP, .int .i64 u, .int .i64 v] h R := by
  have e : S98 gP u v h R = FX (envX [] 33) { loops := [], joins := [], blocks := [], draws := [] } Try.f98 (Try.f98.body.getD .skip) [.pointer gP, .int .i64 u, .int .i64 v] h R := by kernel_rfl
  exact calls_of_FX (envX_ok _ _) Try.func98 (by kernel_rfl) (by kernel_rfl) (by kernel_rfl) (e ▸ H)
/-- (*tracery/graph.Graph).DropNode -/
def S99 (gP : Option Addr) (v : Int) (h : Heap) (R : Value → Heap → Prop) : Prop :=
  callX Try.prog 162 #[.pointer gP] h [] fun v2 hv =>
  ∃ r : Bool, v2 = .bool r ∧
  cnd r
    (R (.tuple #[.int .i64 0, .int .i64 1]) hv)
    (callX Try.prog 167 #[.pointer gP, .int .i64 v] hv [] fun v3 hv2 =>
    ∃ r2 : Bool, v3 = .bool r2 ∧
    cnd (!r2)
      (R (.tuple #[.int .i64 0, .int .i64 2]) hv2)
      (callX Try.prog 168 #[.pointer gP, .int .i64 v] hv2 [] fun v4 hv3 =>
      ∃ (rA : Option Addr) (rL rC : Nat), v4 = .slice rA rL rC ∧
      ∃ (Iv : List Value → Heap → Prop) (m : List Value → Heap → Nat), Iv [.int .i64 0] hv3 ∧ -- loop 1: ['22'] []
      ∀ x : Int, ∀ hv4, Iv [.int .i64 x] hv4 →
      cnd (decide (x < ((rL : Nat) : Int)))
        (∃ b o, rA = some ⟨b, o, none⟩ ∧ 0 ≤ x ∧ x < (rL : Nat) ∧ ∃ x2 : Int, hcell hv4 b (o + (Int.toNat x) * 1) = some (.int .i64 x2) ∧ callX Try.prog 170 #[.pointer gP, .int .i64 x2] hv4 [] fun v5 hv5 =>
        v5 = .tuple #[] ∧
        Iv [.int .i64 (IntKind.i64.wrap (x + (1 : Int)))] hv5 ∧ m [.int .i64 (IntKind.i64.wrap (x + (1 : Int)))] hv5 < m [.int .i64 x] hv4)
        (callX Try.prog 171 #[.pointer gP, .int .i64 v] hv4 [] fun v6 hv6 =>
        v6 = .tuple #[] ∧
        R (.tuple #[.int .i64 ((rL : Nat) : Int), .int .i64 0]) hv6)))
theorem calls99 {h : Heap} {R : Value → Heap → Prop} (gP : Option Addr) (v : Int) (H : S99 gP v h R) : CallsH Try.prog 99 #[.pointer gP, .int .i64 v] h R := by
  have e : S99 gP v h R = FX (envX [] 35) { loops := [(1, ⟨[0, 1, 6, 20, 21], [22], [], []⟩)], joins := [], blocks := [], draws := [] } Try.f99 (Try.f99.body.getD .skip) [.pointer gP, .int .i64 v] h R := by kernel_rfl
  exact calls_of_FX (envX_ok _ _) Try.func99 (by kernel_rfl) (by kernel_rfl) (by kernel_rfl) (e ▸ H)
/-- (*tracery/graph.Graph).Edges -/
def S100 (gP : Option Addr) (v : Int) (h : Heap) (R : Value → Heap → Prop) : Prop :=
  let hv : Heap := h.push (.cells #[.slice none 0 0] 40)
  callX Try.prog 162 #[.pointer gP] hv [] fun v2 hv2 =>
  ∃ r : Bool, v2 = .bool r ∧
  cnd (!r)
    (callX Try.prog 167 #[.pointer gP, .int .i64 v] hv2 [] fun v3 hv3 =>
    ∃ r2 : Bool, v3 = .bool r2 ∧
    ∃ Jv : List Value → Heap → Prop, -- join 13 [] []
    ( cnd r2
       (callX Try.prog 168 #[.pointer gP, .int .i64 v] hv3 [] fun v4 hv4 =>
       ∃ (rA : Option Addr) (rL rC : Nat), v4 = .slice rA rL rC ∧
       (∃ u, hcell hv4 h.size 0 = some u) ∧ hfree hv4 h.size 0 = true ∧ let hv5 : Heap := hset hv4 h.size 0 (.slice rA rL rC)
       Jv [] hv5)
       (Jv [] hv3)) ∧
    ∀ hv6, Jv [] hv6 →
    R (.func (.func 185) #[] #[.pointer (some (⟨h.size, 0, none⟩ : Addr))]) hv6)
    (R (.func (.func 185) #[] #[.pointer (some (⟨h.size, 0, none⟩ : Addr))]) hv2)
theorem calls100 {h : Heap} {R : Value → Heap → Prop} (gP : Option Addr) (v : Int) (H : S100 gP v h R) : CallsH Try.prog 100 #[.pointer gP, .int .i64 v] h R := by
  have e : S100 gP v h R = FX (envX [] 18) { loops := [], joins := [(13, ⟨[5], [], [], []⟩)], blocks := [], draws := [] } Try.f100 (Try.f100.body.getD .skip) [.pointer gP, .int .i64 v] h R := by kernel_rfl
  exact calls_of_FX (envX_ok _ _) Try.func100 (by kernel_rfl) (by kernel_rfl) (by kernel_rfl) (e ▸ H)
/-- (*tracery/graph.Graph).Mark -/
def S101 (gP : Option Addr) (h : Heap) (R : Value → Heap → Prop) : Prop :=
  callX Try.prog 162 #[.pointer gP] h [] fun v hv =>
  ∃ r : Bool, v = .bool r ∧
  cnd r
    (R (.int .i64 0) hv)
    (∃ b o, gP = some ⟨b, o, none⟩ ∧ ∃ (xA : Option Addr) (xL xC : Nat), hcell hv b (o + 6) = some (.slice xA xL xC) ∧ cnd (decide (((xL : Nat) : Int) ≥ (64 : Int)))
       (R (.int .i64 0) hv)
       (∃ b2 o2, gP = some ⟨b2, o2, none⟩ ∧ ∃ x : Int, hcell hv b2 (o2 + 7) = some (.int .i64 x) ∧ ∃ b3 o3, gP = some ⟨b3, o3, none⟩ ∧ (∃ u, hcell hv b3 (o3 + 7) = some u) ∧ hfree hv b3 (o3 + 7) = true ∧ let hv2 : Heap := hset hv b3 (o3 + 7) (.int .i64 (IntKind.i64.wrap (x + (1 : Int))))
       ∃ Mv : List Nat, (∀ b ∈ ([] : List Nat), b ∉ Mv) ∧
       ∃ b4 o4, gP = some ⟨b4, o4, none⟩ ∧ b4 ∉ Mv ∧ ∃ (xA2 : Option Addr) (xL2 xC2 : Nat), hcell hv2 b4 (o4 + 6) = some (.slice xA2 xL2 xC2) ∧ ∃ b5 o5, gP = some ⟨b5, o5, none⟩ ∧ b5 ∉ Mv ∧ ∃ x2 : Int, hcell hv2 b5 (o5 + 7) = some (.int .i64 x2) ∧ ∃ b6 o6, gP = some ⟨b6, o6, none⟩ ∧ b6 ∉ Mv ∧ ∃ (xA3 : Option Addr) (xL3 xC3 : Nat), hcell hv2 b6 (o6 + 5) = some (.slice xA3 xL3 xC3) ∧ let hv3 : Heap := hv2.push (.cells #[.int .i64 x2, .int .i64 ((xL3 : Nat) : Int)] 226)
       Fr Mv hv2 hv3 ∧
       ∃ old, Ownd hv3 226 2 xA2 xL2 xC2 old ∧ (∀ b ∈ ([hv2.size] : List Nat), b ∉ blkOf xA2) ∧ (xL2 + 1) * 16 ≤ 140737488355328 ∧ (xL2 + 1) ≤ maxLen ∧
       ∀ sA sC hv5, Ownd hv5 226 2 sA (xL2 + 1) sC (old ++ [.int .i64 x2, .int .i64 ((xL3 : Nat) : Int)]) → Fr (blkOf xA2) hv3 hv5 → ((sA = xA2 ∧ sC = xC2) ∨ ∃ g, sA = some ⟨g, 0, none⟩ ∧ hv3.size ≤ g) → (xC2 < (xL2 + 1) → Fr [] hv3 hv5) →
       Fr Mv hv2 hv5 ∧
       ∃ b7 o7, gP = some ⟨b7, o7, none⟩ ∧ b7 ≠ hv2.size ∧ (∃ u, hcell hv5 b7 (o7 + 6) = some u) ∧ hfree hv5 b7 (o7 + 6) = true ∧ let hv6 : Heap := hset hv5 b7 (o7 + 6) (.slice sA (xL2 + 1) sC)
       ∃ b8 o8, gP = some ⟨b8, o8, none⟩ ∧ ∃ x3 : Int, hcell hv6 b8 (o8 + 7) = some (.int .i64 x3) ∧ R (.int .i64 x3) hv6))
theorem calls101 {h : Heap} {R : Value → Heap → Prop} (gP : Option Addr) (H : S101 gP h R) : CallsH Try.prog 101 #[.pointer gP] h R := by
  have e : S101 gP h R = FX (envX [35] 43) { loops := [], joins := [], blocks := [], draws := [(4, ⟨17, true⟩)] } Try.f101 (Try.f101.body.getD .skip) [.pointer gP] h R := by kernel_rfl
  exact calls_of_FX (envX_ok _ _) Try.func101 (by kernel_rfl) (by kernel_rfl) (by kernel_rfl) (e ▸ H)
/-- (*tracery/graph.Graph).DropEdge -/
def S102 (gP : Option Addr) (ev : Int) (h : Heap) (R : Value → Heap → Prop) : Prop :=
  callX Try.prog 162 #[.pointer gP] h [] fun v hv =>
  ∃ r : Bool, v = .bool r ∧
  cnd r
    (R (.int .i64 1) hv)
    (callX Try.prog 163 #[.pointer gP, .int .i64 ev] hv [] fun v2 hv2 =>
    ∃ rP : Option Addr, v2 = .pointer rP ∧
    cnd (Option.isNone rP)
      (R (.int .i64 2) hv2)
      (callX Try.prog 170 #[.pointer gP, .int .i64 ev] hv2 [] fun v3 hv3 =>
      v3 = .tuple #[] ∧
      R (.int .i64 0) hv3))
theorem calls102 {h : Heap} {R : Value → Heap → Prop} (gP : Option Addr) (ev : Int) (H : S102 gP ev h R) : CallsH Try.prog 102 #[.pointer gP, .int .i64 ev] h R := by
  have e : S102 gP ev h R = FX (envX [] 16) { loops := [], joins := [], blocks := [], draws := [] } Try.f102 (Try.f102.body.getD .skip) [.pointer gP, .int .i64 ev] h R := by kernel_rfl
  exact calls_of_FX (envX_ok _ _) Try.func102 (by kernel_rfl) (by kernel_rfl) (by kernel_rfl) (e ▸ H)
/-- (*tracery/graph.Graph).Move -/
def S103 (gP : Option Addr) (ev : Int) (endv : Int) (v : Int) (h : Heap) (R : Value → Heap → Prop) : Prop :=
  callX Try.prog 162 #[.pointer gP] h [] fun v2 hv =>
  ∃ r : Bool, v2 = .bool r ∧
  cnd r
    (R (.int .i64 1) hv)
    (callX Try.prog 163 #[.pointer gP, .int .i64 ev] hv [] fun v3 hv2 =>
    ∃ rP : Option Addr, v3 = .pointer rP ∧
    cnd (Option.isNone rP)
      (R (.int .i64 2) hv2)
      (callX Try.prog 167 #[.pointer gP, .int .i64 v] hv2 [] fun v4 hv3 =>
      ∃ r2 : Bool, v4 = .bool r2 ∧
      cnd (!r2)
        (R (.int .i64 2) hv3)
        (cnd (decide (endv < (0 : Int)))
           (R (.int .i64 2) hv3)
           (cnd (decide (endv > (1 : Int)))
              (R (.int .i64 2) hv3)
              (callX Try.prog 166 #[.pointer gP, .int .i64 ev, .int .i64 endv, .int .i64 v] hv3 [] fun v5 hv4 =>
              v5 = .tuple #[] ∧
              R (.int .i64 0) hv4)))))
theorem calls103 {h : Heap} {R : Value → Heap → Prop} (gP : Option Addr) (ev : Int) (endv : Int) (v : Int) (H : S103 gP ev endv v h R) : CallsH Try.prog 103 #[.pointer gP, .int .i64 ev, .int .i64 endv, .int .i64 v] h R := by
  have e : S103 gP ev endv v h R = FX (envX [] 36) { loops := [], joins := [], blocks := [], draws := [] } Try.f103 (Try.f103.body.getD .skip) [.pointer gP, .int .i64 ev, .int .i64 endv, .int .i64 v] h R := by kernel_rfl
  exact calls_of_FX (envX_ok _ _) Try.func103 (by kernel_rfl) (by kernel_rfl) (by kernel_rfl) (e ▸ H)
/-- (*tracery/graph.Graph).Back -/
def S104 (gP : Option Addr) (number : Int) (h : Heap) (R : Value → Heap → Prop) : Prop :=
  callX Try.prog 162 #[.pointer gP] h [] fun v hv =>
  ∃ r : Bool, v = .bool r ∧
  cnd r
    (R (.int .i64 1) hv)
    (∃ b o, gP = some ⟨b, o, none⟩ ∧ ∃ (xA : Option Addr) (xL xC : Nat), hcell hv b (o + 6) = some (.slice xA xL xC) ∧ ∃ (Iv : List Value → Heap → Prop) (m : List Value → Heap → Nat), Iv [.int .i64 0] hv ∧ -- loop 0: ['15'] []
    ∀ x : Int, ∀ hv2, Iv [.int .i64 x] hv2 →
    cnd (decide (x < ((xL : Nat) : Int)))
      (∃ b2 o2, xA = some ⟨b2, o2, none⟩ ∧ 0 ≤ x ∧ x < (xL : Nat) ∧ ∃ x2 : Int, hcell hv2 b2 (o2 + (Int.toNat x) * 2) = some (.int .i64 x2) ∧ ∃ x3 : Int, hcell hv2 b2 ((o2 + (Int.toNat x) * 2) + 1) = some (.int .i64 x3) ∧ let hv3 : Heap := hv2.push (.cells #[.int .i64 0, .int .i64 0] 226)
      let hv4 : Heap := hset (hset hv3 hv2.size 0 (.int .i64 x2)) hv2.size (0 + 1) (.int .i64 x3)
      cnd (x2 != number)
        (Iv [.int .i64 (IntKind.i64.wrap (x + (1 : Int)))] hv4 ∧ m [.int .i64 (IntKind.i64.wrap (x + (1 : Int)))] hv4 < m [.int .i64 x] hv2)
        (∃ b3 o3, gP = some ⟨b3, o3, none⟩ ∧ ∃ (xA2 : Option Addr) (xL2 xC2 : Nat), hcell hv4 b3 (o3 + 6) = some (.slice xA2 xL2 xC2) ∧ 0 ≤ (IntKind.i64.wrap (x + (1 : Int))) ∧ (IntKind.i64.wrap (x + (1 : Int))) ≤ (xC2 : Nat) ∧ ∃ b4 o4, gP = some ⟨b4, o4, none⟩ ∧ b4 ≠ hv2.size ∧ (∃ u, hcell hv4 b4 (o4 + 6) = some u) ∧ hfree hv4 b4 (o4 + 6) = true ∧ let hv5 : Heap := hset hv4 b4 (o4 + 6) (.slice (if xC2 = 0 then xA2 else Option.map (fun addr => Addr.add addr (0 * 2)) xA2) ((Int.toNat (IntKind.i64.wrap (x + (1 : Int)))) - 0) (xC2 - 0))
        ∃ (Iv2 : List Value → Heap → Prop) (m2 : List Value → Heap → Nat), Iv2 [] hv5 ∧ -- loop 2: [] []
        ∀ hv6, Iv2 [] hv6 →
        ∃ b5 o5, gP = some ⟨b5, o5, none⟩ ∧ ∃ (xA3 : Option Addr) (xL3 xC3 : Nat), hcell hv6 b5 (o5 + 5) = some (.slice xA3 xL3 xC3) ∧ cnd (decide (((xL3 : Nat) : Int) > x3))
          (∃ b6 o6, gP = some ⟨b6, o6, none⟩ ∧ ∃ (xA4 : Option Addr) (xL4 xC4 : Nat), hcell hv6 b6 (o6 + 5) = some (.slice xA4 xL4 xC4) ∧ ∃ b7 o7, gP = some ⟨b7, o7, none⟩ ∧ ∃ (xA5 : Option Addr) (xL5 xC5 : Nat), hcell hv6 b7 (o7 + 5) = some (.slice xA5 xL5 xC5) ∧ ∃ b8 o8, xA4 = some ⟨b8, o8, none⟩ ∧ 0 ≤ (IntKind.i64.wrap (((xL5 : Nat) : Int) - (1 : Int))) ∧ (IntKind.i64.wrap (((xL5 : Nat) : Int) - (1 : Int))) < (xL4 : Nat) ∧ ∃ (xF : Fn) (xX xY : Array Value), hcell hv6 b8 (o8 + (Int.toNat (IntKind.i64.wrap (((xL5 : Nat) : Int) - (1 : Int)))) * 1) = some (.func xF xX xY) ∧ ∃ b9 o9, gP = some ⟨b9, o9, none⟩ ∧ ∃ (xA6 : Option Addr) (xL6 xC6 : Nat), hcell hv6 b9 (o9 + 5) = some (.slice xA6 xL6 xC6) ∧ ∃ b10 o10, gP = some ⟨b10, o10, none⟩ ∧ ∃ (xA7 : Option Addr) (xL7 xC7 : Nat), hcell hv6 b10 (o10 + 5) = some (.slice xA7 xL7 xC7) ∧ 0 ≤ (IntKind.i64.wrap (((xL7 : Nat) : Int) - (1 : Int))) ∧ (IntKind.i64.wrap (((xL7 : Nat) : Int) - (1 : Int))) ≤ (xC6 : Nat) ∧ ∃ b11 o11, gP = some ⟨b11, o11, none⟩ ∧ b11 ≠ hv2.size ∧ (∃ u, hcell hv6 b11 (o11 + 5) = some u) ∧ hfree hv6 b11 (o11 + 5) = true ∧ let hv7 : Heap := hset hv6 b11 (o11 + 5) (.slice (if xC6 = 0 then xA6 else Option.map (fun addr => Addr.add addr (0 * 1)) xA6) ((Int.toNat (IntKind.i64.wrap (((xL7 : Nat) : Int) - (1 : Int)))) - 0) (xC6 - 0))
          callD Try.prog fnsX xF xX xY [.pointer gP] hv7 [hv2.size] fun v2 hv8 =>
          v2 = .tuple #[] ∧
          Iv2 [] hv8 ∧ m2 [] hv8 < m2 [] hv6)
          (R (.int .i64 0) hv6)))
      (R (.int .i64 14) hv2))
theorem calls104 {h : Heap} {R : Value → Heap → Prop} (gP : Option Addr) (number : Int) (H : S104 gP number h R) : CallsH Try.prog 104 #[.pointer gP, .int .i64 number] h R := by
  have e : S104 gP number h R = FX (envX [6] 72) { loops := [(0, ⟨[0, 1, 13, 14], [15], [], []⟩), (2, ⟨[0, 1, 6, 13, 14], [], [6], []⟩)], joins := [], blocks := [], draws := [(8, ⟨8, false⟩), (9, ⟨13, false⟩), (10, ⟨14, false⟩)] } Try.f104 (Try.f104.body.getD .skip) [.pointer gP, .int .i64 number] h R := by kernel_rfl
  exact calls_of_FX (envX_ok _ _) Try.func104 (by kernel_rfl) (by kernel_rfl) (by kernel_rfl) (e ▸ H)
/-- (*tracery/graph.Graph).Copy -/
def S105 (gP : Option Addr) (h : Heap) (R : Value → Heap → Prop) : Prop :=
  callX Try.prog 162 #[.pointer gP] h [] fun v hv =>
  ∃ r : Bool, v = .bool r ∧
  cnd r
    (R (.pointer none) hv)
    (∃ b o, gP = some ⟨b, o, none⟩ ∧ ∃ x : Bool, hcell hv b o = some (.bool x) ∧ ∃ (xA : Option Addr) (xL xC : Nat), hcell hv b (o + 1) = some (.slice xA xL xC) ∧ ∃ (xA2 : Option Addr) (xL2 xC2 : Nat), hcell hv b ((o + 1) + 1) = some (.slice xA2 xL2 xC2) ∧ ∃ x2 : Int, hcell hv b (((o + 1) + 1) + 1) = some (.int .i64 x2) ∧ ∃ x3 : Int, hcell hv b ((((o + 1) + 1) + 1) + 1) = some (.int .i64 x3) ∧ ∃ (xA3 : Option Addr) (xL3 xC3 : Nat), hcell hv b (((((o + 1) + 1) + 1) + 1) + 1) = some (.slice xA3 xL3 xC3) ∧ ∃ (xA4 : Option Addr) (xL4 xC4 : Nat), hcell hv b ((((((o + 1) + 1) + 1) + 1) + 1) + 1) = some (.slice xA4 xL4 xC4) ∧ ∃ x4 : Int, hcell hv b (((((((o + 1) + 1) + 1) + 1) + 1) + 1) + 1) = some (.int .i64 x4) ∧ let hv2 : Heap := hv.push (.cells #[.bool false, .slice none 0 0, .slice none 0 0, .int .i64 0, .int .i64 0, .slice none 0 0, .slice none 0 0, .int .i64 0] 204)
    (∃ u, hcell hv2 hv.size 0 = some u) ∧ hfree hv2 hv.size 0 = true ∧ (∃ u, hcell hv2 hv.size (0 + 1) = some u) ∧ hfree hv2 hv.size (0 + 1) = true ∧ (∃ u, hcell hv2 hv.size ((0 + 1) + 1) = some u) ∧ hfree hv2 hv.size ((0 + 1) + 1) = true ∧ (∃ u, hcell hv2 hv.size (((0 + 1) + 1) + 1) = some u) ∧ hfree hv2 hv.size (((0 + 1) + 1) + 1) = true ∧ (∃ u, hcell hv2 hv.size ((((0 + 1) + 1) + 1) + 1) = some u) ∧ hfree hv2 hv.size ((((0 + 1) + 1) + 1) + 1) = true ∧ (∃ u, hcell hv2 hv.size (((((0 + 1) + 1) + 1) + 1) + 1) = some u) ∧ hfree hv2 hv.size (((((0 + 1) + 1) + 1) + 1) + 1) = true ∧ (∃ u, hcell hv2 hv.size ((((((0 + 1) + 1) + 1) + 1) + 1) + 1) = some u) ∧ hfree hv2 hv.size ((((((0 + 1) + 1) + 1) + 1) + 1) + 1) = true ∧ (∃ u, hcell hv2 hv.size (((((((0 + 1) + 1) + 1) + 1) + 1) + 1) + 1) = some u) ∧ hfree hv2 hv.size (((((((0 + 1) + 1) + 1) + 1) + 1) + 1) + 1) = true ∧ let hv3 : Heap := hset (hset (hset (hset (hset (hset (hset (hset hv2 hv.size 0 (.bool x)) hv.size (0 + 1) (.slice xA xL xC)) hv.size ((0 + 1) + 1) (.slice xA2 xL2 xC2)) hv.size (((0 + 1) + 1) + 1) (.int .i64 x2)) hv.size ((((0 + 1) + 1) + 1) + 1) (.int .i64 x3)) hv.size (((((0 + 1) + 1) + 1) + 1) + 1) (.slice xA3 xL3 xC3)) hv.size ((((((0 + 1) + 1) + 1) + 1) + 1) + 1) (.slice xA4 xL4 xC4)) hv.size (((((((0 + 1) + 1) + 1) + 1) + 1) + 1) + 1) (.int .i64 x4)
    ∃ b2 o2, gP = some ⟨b2, o2, none⟩ ∧ ∃ (xA5 : Option Addr) (xL5 xC5 : Nat), hcell hv3 b2 (o2 + 1) = some (.slice xA5 xL5 xC5) ∧ ∃ xs : List Value, Reads hv3 1 xA5 xL5 xs ∧ (xA5 = none → xC5 = 0) ∧ (∀ v ∈ xs, v.oneCell' = true) ∧ ∃ old, Ownd hv3 4 1 none 0 0 old ∧ (∀ b ∈ ([] : List Nat), b ∉ blkOf none) ∧ (0 + xL5) * 1 ≤ 140737488355328 ∧ (0 + xL5) ≤ maxLen ∧
    ∀ sA sC hv5, Ownd hv5 4 1 sA (0 + xL5) sC (old ++ xs) → Fr (blkOf none) hv3 hv5 → ((sA = none ∧ sC = 0) ∨ ∃ g, sA = some ⟨g, 0, none⟩ ∧ hv3.size ≤ g) → (0 < (0 + xL5) → Fr [] hv3 hv5) →
    (∃ u, hcell hv5 hv.size (0 + 1) = some u) ∧ hfree hv5 hv.size (0 + 1) = true ∧ let hv6 : Heap := hset hv5 hv.size (0 + 1) (.slice sA (0 + xL5) sC)
    ∃ b3 o3, gP = some ⟨b3, o3, none⟩ ∧ ∃ (xA6 : Option Addr) (xL6 xC6 : Nat), hcell hv6 b3 (o3 + 2) = some (.slice xA6 xL6 xC6) ∧ ∃ xs2 : List Value, Reads hv6 3 xA6 xL6 xs2 ∧ (xA6 = none → xC6 = 0) ∧ (∀ v ∈ xs2, v.oneCell' = true) ∧ ∃ old2, Ownd hv6 199 3 none 0 0 old2 ∧ (∀ b ∈ ([] : List Nat), b ∉ blkOf none) ∧ (0 + xL6) * 24 ≤ 140737488355328 ∧ (0 + xL6) ≤ maxLen ∧
    ∀ sA2 sC2 hv8, Ownd hv8 199 3 sA2 (0 + xL6) sC2 (old2 ++ xs2) → Fr (blkOf none) hv6 hv8 → ((sA2 = none ∧ sC2 = 0) ∨ ∃ g, sA2 = some ⟨g, 0, none⟩ ∧ hv6.size ≤ g) → (0 < (0 + xL6) → Fr [] hv6 hv8) →
    (∃ u, hcell hv8 hv.size (0 + 2) = some u) ∧ hfree hv8 hv.size (0 + 2) = true ∧ let hv9 : Heap := hset hv8 hv.size (0 + 2) (.slice sA2 (0 + xL6) sC2)
    let hv10 : Heap := hv9.push (.cells #[] 227)
    ∃ b4 o4, gP = some ⟨b4, o4, none⟩ ∧ ∃ (xA7 : Option Addr) (xL7 xC7 : Nat), hcell hv10 b4 (o4 + 5) = some (.slice xA7 xL7 xC7) ∧ ∃ xs3 : List Value, Reads hv10 1 xA7 xL7 xs3 ∧ (xA7 = none → xC7 = 0) ∧ (∀ v ∈ xs3, v.oneCell' = true) ∧ ∃ old3, Ownd hv10 227 1 (some (⟨hv9.size, 0, none⟩ : Addr)) 0 0 old3 ∧ (∀ b ∈ ([] : List Nat), b ∉ blkOf (some (⟨hv9.size, 0, none⟩ : Addr))) ∧ (0 + xL7) * 8 ≤ 140737488355328 ∧ (0 + xL7) ≤ maxLen ∧
    ∀ sA3 sC3 hv12, Ownd hv12 227 1 sA3 (0 + xL7) sC3 (old3 ++ xs3) → Fr (blkOf (some (⟨hv9.size, 0, none⟩ : Addr))) hv10 hv12 → ((sA3 = (some (⟨hv9.size, 0, none⟩ : Addr)) ∧ sC3 = 0) ∨ ∃ g, sA3 = some ⟨g, 0, none⟩ ∧ hv10.size ≤ g) → (0 < (0 + xL7) → Fr [] hv10 hv12) →
    (∃ u, hcell hv12 hv.size (0 + 5) = some u) ∧ hfree hv12 hv.size (0 + 5) = true ∧ let hv13 : Heap := hset hv12 hv.size (0 + 5) (.slice sA3 (0 + xL7) sC3)
    ∃ b5 o5, gP = some ⟨b5, o5, none⟩ ∧ ∃ (xA8 : Option Addr) (xL8 xC8 : Nat), hcell hv13 b5 (o5 + 6) = some (.slice xA8 xL8 xC8) ∧ ∃ xs4 : List Value, Reads hv13 2 xA8 xL8 xs4 ∧ (xA8 = none → xC8 = 0) ∧ (∀ v ∈ xs4, v.oneCell' = true) ∧ ∃ old4, Ownd hv13 226 2 none 0 0 old4 ∧ (∀ b ∈ ([] : List Nat), b ∉ blkOf none) ∧ (0 + xL8) * 16 ≤ 140737488355328 ∧ (0 + xL8) ≤ maxLen ∧
    ∀ sA4 sC4 hv15, Ownd hv15 226 2 sA4 (0 + xL8) sC4 (old4 ++ xs4) → Fr (blkOf none) hv13 hv15 → ((sA4 = none ∧ sC4 = 0) ∨ ∃ g, sA4 = some ⟨g, 0, none⟩ ∧ hv13.size ≤ g) → (0 < (0 + xL8) → Fr [] hv13 hv15) →
    (∃ u, hcell hv15 hv.size (0 + 6) = some u) ∧ hfree hv15 hv.size (0 + 6) = true ∧ let hv16 : Heap := hset hv15 hv.size (0 + 6) (.slice sA4 (0 + xL8) sC4)
    R (.pointer (some (⟨hv.size, 0, none⟩ : Addr))) hv16)
theorem calls105 {h : Heap} {R : Value → Heap → Prop} (gP : Option Addr) (H : S105 gP h R) : CallsH Try.prog 105 #[.pointer gP] h R := by
  have e : S105 gP h R = FX (envX [] 34) { loops := [], joins := [], blocks := [], draws := [] } Try.f105 (Try.f105.body.getD .skip) [.pointer gP] h R := by kernel_rfl
  exact calls_of_FX (envX_ok _ _) Try.func105 (by kernel_rfl) (by kernel_rfl) (by kernel_rfl) (e ▸ H)
end Go.Proofs.Ytmcloipjlihhlaa
