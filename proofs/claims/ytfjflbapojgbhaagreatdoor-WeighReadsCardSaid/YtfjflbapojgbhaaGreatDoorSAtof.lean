/- atof64 with its slow fallback: what is left to be shown: printed by program, tied to the loaded function by the kernel. Conditions: none. -/
import Derived.Test.YtfjflbapojgbhaaGreatDoorWEnv
import Derived.Test.YtfjflbapojgbhaaGreatDoorYGl
namespace Go.Proofs.YtfjflbapojgbhaaGreatDoor
open Go.X
set_option maxRecDepth 100000
set_option linter.unusedVariables false

/-- A decimal's cells. -/
def d804 : Array Value := (List.replicate 800 (Value.int .u8 0) ++ ([.int .i64 0, .int .i64 0, .bool false, .bool false] : List Value)).toArray
/-- internal/strconv.atof64 -/
def S55s (s : ByteArray) (h : Heap) (R : Value → Heap → Prop) : Prop :=
  callX Tryz.prog 78 #[.string s] h [] fun v hv =>
  ∃ ra : Nat, ∃ rb : Int, ∃ rc : Bool, v = .tuple #[.float .f64 ra, .int .i64 rb, .bool rc] ∧
  cnd rc
   (R (.tuple #[.float .f64 ra, .int .i64 rb, .nilIface]) hv)
   (callX Tryz.prog 79 #[.string s] hv [] fun v2 hv2 =>
   ∃ ra2 : Int, ∃ rb2 : Int, ∃ rc2 : Bool, ∃ rd : Bool, ∃ re : Bool, ∃ rf : Int, ∃ rg : Bool, v2 = .tuple #[.int .u64 ra2, .int .i64 rb2, .bool rc2, .bool rd, .bool re, .int .i64 rf, .bool rg] ∧
   cnd (!rg)
    (R (.tuple #[.float .f64 0, .int .i64 rf, .iface 64 (.int .i64 2)]) hv2)
    (cnd re
     (0 ≤ rf ∧ rf ≤ (s.size : Nat) ∧ callX Tryz.prog 80 #[.string (s.extract 0 (Int.toNat rf)), .pointer (some (⟨5, 0, none⟩ : Addr)), .int .u64 ra2, .int .i64 rb2, .bool rc2, .bool rd] hv2 [] fun v3 hv3 =>
     ∃ ra3 : Nat, (v3 = .tuple #[.float .f64 ra3, .nilIface] ∧
     R (.tuple #[.float .f64 ra3, .int .i64 rf, .nilIface]) hv3 ∨ ∃ (rbT : Nat) (rbI : Value), v3 = .tuple #[.float .f64 ra3, .iface rbT rbI] ∧
     R (.tuple #[.float .f64 ra3, .int .i64 rf, .iface rbT rbI]) hv3))
     (∃ x : Bool, hcell hv2 3 0 = some (.bool x) ∧ cnd x
      (callX Tryz.prog 87 #[.bool rc2] hv2 [] fun v4 hv4 =>
      ∃ r : Int, v4 = .int .u64 r ∧
      0 ≤ (63 : Int) ∧ cnd (ra2 == (0 : Int))
       (callE Tryz.prog 88 #[.int .u64 (bits .or .u64 (IntKind.u64.wrap (r * 2 ^ (min (Int.toNat (63 : Int)) 64))) (0 : Int))] fun v5 =>
       ∃ r2 : Nat, v5 = .float .f64 r2 ∧
       R (.tuple #[.float .f64 r2, .int .i64 rf, .nilIface]) hv4)
       (cnd (decide (rb2 > (310 : Int)))
        (callE Tryz.prog 88 #[.int .u64 (bits .or .u64 (IntKind.u64.wrap (r * 2 ^ (min (Int.toNat (63 : Int)) 64))) (9218868437227405312 : Int))] fun v6 =>
        ∃ r3 : Nat, v6 = .float .f64 r3 ∧
        R (.tuple #[.float .f64 r3, .int .i64 rf, .iface 64 (.int .i64 1)]) hv4)
        (cnd (decide (rb2 < ((-345) : Int)))
         (callE Tryz.prog 88 #[.int .u64 (bits .or .u64 (IntKind.u64.wrap (r * 2 ^ (min (Int.toNat (63 : Int)) 64))) (0 : Int))] fun v7 =>
         ∃ r4 : Nat, v7 = .float .f64 r4 ∧
         R (.tuple #[.float .f64 r4, .int .i64 rf, .nilIface]) hv4)
         (cnd (!rd)
          (callX Tryz.prog 89 #[.int .u64 ra2, .int .i64 rb2, .bool rc2] hv4 [] fun v8 hv5 =>
          ∃ ra4 : Nat, ∃ rb3 : Bool, v8 = .tuple #[.float .f64 ra4, .bool rb3] ∧
          cnd rb3
           (R (.tuple #[.float .f64 ra4, .int .i64 rf, .nilIface]) hv5)
           (callX Tryz.prog 90 #[.int .u64 ra2, .int .i64 rb2, .int .u64 (IntKind.u64.wrap (r * 2 ^ (min (Int.toNat (63 : Int)) 64)))] hv5 [] fun v9 hv6 =>
           ∃ ra5 : Nat, (v9 = .tuple #[.float .f64 ra5, .nilIface] ∧
           cnd (!rd)
            (R (.tuple #[.float .f64 ra5, .int .i64 rf, .nilIface]) hv6)
            (callX Tryz.prog 90 #[.int .u64 (IntKind.u64.wrap (ra2 + (1 : Int))), .int .i64 rb2, .int .u64 (IntKind.u64.wrap (r * 2 ^ (min (Int.toNat (63 : Int)) 64)))] hv6 [] fun v10 hv7 =>
            ∃ ra6 : Nat, (v10 = .tuple #[.float .f64 ra6, .nilIface] ∧
            cnd ((FloatKind.f64).format.order ra5 ra6 == some .eq)
             (R (.tuple #[.float .f64 ra5, .int .i64 rf, .nilIface]) hv7)
             (let hv8 : Heap := hv7.push (.cells d804 101)
             0 ≤ rf ∧ rf ≤ (s.size : Nat) ∧ callX Tryz.prog 85 #[.pointer (some (⟨hv7.size, 0, none⟩ : Addr)), .string (s.extract 0 (Int.toNat rf))] hv8 [] fun v11 hv9 =>
             ∃ r5 : Bool, v11 = .bool r5 ∧
             cnd (!r5)
              (R (.tuple #[.float .f64 0, .int .i64 rf, .iface 64 (.int .i64 2)]) hv9)
              (callX Tryz.prog 86 #[.pointer (some (⟨hv7.size, 0, none⟩ : Addr)), .pointer (some (⟨5, 0, none⟩ : Addr))] hv9 [] fun v12 hv10 =>
              ∃ ra7 : Int, ∃ rb4 : Bool, v12 = .tuple #[.int .u64 ra7, .bool rb4] ∧
              callE Tryz.prog 88 #[.int .u64 ra7] fun v13 =>
              ∃ r6 : Nat, v13 = .float .f64 r6 ∧
              cnd rb4
               (R (.tuple #[.float .f64 r6, .int .i64 rf, .iface 64 (.int .i64 1)]) hv10)
               (R (.tuple #[.float .f64 r6, .int .i64 rf, .nilIface]) hv10))) ∨ ∃ (rbT3 : Nat) (rbI3 : Value), v10 = .tuple #[.float .f64 ra6, .iface rbT3 rbI3] ∧
            cnd ((FloatKind.f64).format.order ra5 ra6 == some .eq)
             (R (.tuple #[.float .f64 ra5, .int .i64 rf, .nilIface]) hv7)
             (let hv11 : Heap := hv7.push (.cells d804 101)
             0 ≤ rf ∧ rf ≤ (s.size : Nat) ∧ callX Tryz.prog 85 #[.pointer (some (⟨hv7.size, 0, none⟩ : Addr)), .string (s.extract 0 (Int.toNat rf))] hv11 [] fun v14 hv12 =>
             ∃ r7 : Bool, v14 = .bool r7 ∧
             cnd (!r7)
              (R (.tuple #[.float .f64 0, .int .i64 rf, .iface 64 (.int .i64 2)]) hv12)
              (callX Tryz.prog 86 #[.pointer (some (⟨hv7.size, 0, none⟩ : Addr)), .pointer (some (⟨5, 0, none⟩ : Addr))] hv12 [] fun v15 hv13 =>
              ∃ ra8 : Int, ∃ rb5 : Bool, v15 = .tuple #[.int .u64 ra8, .bool rb5] ∧
              callE Tryz.prog 88 #[.int .u64 ra8] fun v16 =>
              ∃ r8 : Nat, v16 = .float .f64 r8 ∧
              cnd rb5
               (R (.tuple #[.float .f64 r8, .int .i64 rf, .iface 64 (.int .i64 1)]) hv13)
               (R (.tuple #[.float .f64 r8, .int .i64 rf, .nilIface]) hv13))))) ∨ ∃ (rbT2 : Nat) (rbI2 : Value), v9 = .tuple #[.float .f64 ra5, .iface rbT2 rbI2] ∧
           cnd (!rd)
            (R (.tuple #[.float .f64 ra5, .int .i64 rf, .iface rbT2 rbI2]) hv6)
            (callX Tryz.prog 90 #[.int .u64 (IntKind.u64.wrap (ra2 + (1 : Int))), .int .i64 rb2, .int .u64 (IntKind.u64.wrap (r * 2 ^ (min (Int.toNat (63 : Int)) 64)))] hv6 [] fun v17 hv14 =>
            ∃ ra9 : Nat, (v17 = .tuple #[.float .f64 ra9, .nilIface] ∧
            cnd ((FloatKind.f64).format.order ra5 ra9 == some .eq)
             (R (.tuple #[.float .f64 ra5, .int .i64 rf, .iface rbT2 rbI2]) hv14)
             (let hv15 : Heap := hv14.push (.cells d804 101)
             0 ≤ rf ∧ rf ≤ (s.size : Nat) ∧ callX Tryz.prog 85 #[.pointer (some (⟨hv14.size, 0, none⟩ : Addr)), .string (s.extract 0 (Int.toNat rf))] hv15 [] fun v18 hv16 =>
             ∃ r9 : Bool, v18 = .bool r9 ∧
             cnd (!r9)
              (R (.tuple #[.float .f64 0, .int .i64 rf, .iface 64 (.int .i64 2)]) hv16)
              (callX Tryz.prog 86 #[.pointer (some (⟨hv14.size, 0, none⟩ : Addr)), .pointer (some (⟨5, 0, none⟩ : Addr))] hv16 [] fun v19 hv17 =>
              ∃ ra10 : Int, ∃ rb6 : Bool, v19 = .tuple #[.int .u64 ra10, .bool rb6] ∧
              callE Tryz.prog 88 #[.int .u64 ra10] fun v20 =>
              ∃ r10 : Nat, v20 = .float .f64 r10 ∧
              cnd rb6
               (R (.tuple #[.float .f64 r10, .int .i64 rf, .iface 64 (.int .i64 1)]) hv17)
               (R (.tuple #[.float .f64 r10, .int .i64 rf, .nilIface]) hv17))) ∨ ∃ (rbT4 : Nat) (rbI4 : Value), v17 = .tuple #[.float .f64 ra9, .iface rbT4 rbI4] ∧
            cnd ((FloatKind.f64).format.order ra5 ra9 == some .eq)
             (R (.tuple #[.float .f64 ra5, .int .i64 rf, .iface rbT2 rbI2]) hv14)
             (let hv18 : Heap := hv14.push (.cells d804 101)
             0 ≤ rf ∧ rf ≤ (s.size : Nat) ∧ callX Tryz.prog 85 #[.pointer (some (⟨hv14.size, 0, none⟩ : Addr)), .string (s.extract 0 (Int.toNat rf))] hv18 [] fun v21 hv19 =>
             ∃ r11 : Bool, v21 = .bool r11 ∧
             cnd (!r11)
              (R (.tuple #[.float .f64 0, .int .i64 rf, .iface 64 (.int .i64 2)]) hv19)
              (callX Tryz.prog 86 #[.pointer (some (⟨hv14.size, 0, none⟩ : Addr)), .pointer (some (⟨5, 0, none⟩ : Addr))] hv19 [] fun v22 hv20 =>
              ∃ ra11 : Int, ∃ rb7 : Bool, v22 = .tuple #[.int .u64 ra11, .bool rb7] ∧
              callE Tryz.prog 88 #[.int .u64 ra11] fun v23 =>
              ∃ r12 : Nat, v23 = .float .f64 r12 ∧
              cnd rb7
               (R (.tuple #[.float .f64 r12, .int .i64 rf, .iface 64 (.int .i64 1)]) hv20)
               (R (.tuple #[.float .f64 r12, .int .i64 rf, .nilIface]) hv20))))))))
          (callX Tryz.prog 90 #[.int .u64 ra2, .int .i64 rb2, .int .u64 (IntKind.u64.wrap (r * 2 ^ (min (Int.toNat (63 : Int)) 64)))] hv4 [] fun v24 hv21 =>
          ∃ ra12 : Nat, (v24 = .tuple #[.float .f64 ra12, .nilIface] ∧
          cnd (!rd)
           (R (.tuple #[.float .f64 ra12, .int .i64 rf, .nilIface]) hv21)
           (callX Tryz.prog 90 #[.int .u64 (IntKind.u64.wrap (ra2 + (1 : Int))), .int .i64 rb2, .int .u64 (IntKind.u64.wrap (r * 2 ^ (min (Int.toNat (63 : Int)) 64)))] hv21 [] fun v25 hv22 =>
           ∃ ra13 : Nat, (v25 = .tuple #[.float .f64 ra13, .nilIface] ∧
           cnd ((FloatKind.f64).format.order ra12 ra13 == some .eq)
            (R (.tuple #[.float .f64 ra12, .int .i64 rf, .nilIface]) hv22)
            (let hv23 : Heap := hv22.push (.cells d804 101)
            0 ≤ rf ∧ rf ≤ (s.size : Nat) ∧ callX Tryz.prog 85 #[.pointer (some (⟨hv22.size, 0, none⟩ : Addr)), .string (s.extract 0 (Int.toNat rf))] hv23 [] fun v26 hv24 =>
            ∃ r13 : Bool, v26 = .bool r13 ∧
            cnd (!r13)
             (R (.tuple #[.float .f64 0, .int .i64 rf, .iface 64 (.int .i64 2)]) hv24)
             (callX Tryz.prog 86 #[.pointer (some (⟨hv22.size, 0, none⟩ : Addr)), .pointer (some (⟨5, 0, none⟩ : Addr))] hv24 [] fun v27 hv25 =>
             ∃ ra14 : Int, ∃ rb8 : Bool, v27 = .tuple #[.int .u64 ra14, .bool rb8] ∧
             callE Tryz.prog 88 #[.int .u64 ra14] fun v28 =>
             ∃ r14 : Nat, v28 = .float .f64 r14 ∧
             cnd rb8
              (R (.tuple #[.float .f64 r14, .int .i64 rf, .iface 64 (.int .i64 1)]) hv25)
              (R (.tuple #[.float .f64 r14, .int .i64 rf, .nilIface]) hv25))) ∨ ∃ (rbT6 : Nat) (rbI6 : Value), v25 = .tuple #[.float .f64 ra13, .iface rbT6 rbI6] ∧
           cnd ((FloatKind.f64).format.order ra12 ra13 == some .eq)
            (R (.tuple #[.float .f64 ra12, .int .i64 rf, .nilIface]) hv22)
            (let hv26 : Heap := hv22.push (.cells d804 101)
            0 ≤ rf ∧ rf ≤ (s.size : Nat) ∧ callX Tryz.prog 85 #[.pointer (some (⟨hv22.size, 0, none⟩ : Addr)), .string (s.extract 0 (Int.toNat rf))] hv26 [] fun v29 hv27 =>
            ∃ r15 : Bool, v29 = .bool r15 ∧
            cnd (!r15)
             (R (.tuple #[.float .f64 0, .int .i64 rf, .iface 64 (.int .i64 2)]) hv27)
             (callX Tryz.prog 86 #[.pointer (some (⟨hv22.size, 0, none⟩ : Addr)), .pointer (some (⟨5, 0, none⟩ : Addr))] hv27 [] fun v30 hv28 =>
             ∃ ra15 : Int, ∃ rb9 : Bool, v30 = .tuple #[.int .u64 ra15, .bool rb9] ∧
             callE Tryz.prog 88 #[.int .u64 ra15] fun v31 =>
             ∃ r16 : Nat, v31 = .float .f64 r16 ∧
             cnd rb9
              (R (.tuple #[.float .f64 r16, .int .i64 rf, .iface 64 (.int .i64 1)]) hv28)
              (R (.tuple #[.float .f64 r16, .int .i64 rf, .nilIface]) hv28))))) ∨ ∃ (rbT5 : Nat) (rbI5 : Value), v24 = .tuple #[.float .f64 ra12, .iface rbT5 rbI5] ∧
          cnd (!rd)
           (R (.tuple #[.float .f64 ra12, .int .i64 rf, .iface rbT5 rbI5]) hv21)
           (callX Tryz.prog 90 #[.int .u64 (IntKind.u64.wrap (ra2 + (1 : Int))), .int .i64 rb2, .int .u64 (IntKind.u64.wrap (r * 2 ^ (min (Int.toNat (63 : Int)) 64)))] hv21 [] fun v32 hv29 =>
           ∃ ra16 : Nat, (v32 = .tuple #[.float .f64 ra16, .nilIface] ∧
           cnd ((FloatKind.f64).format.order ra12 ra16 == some .eq)
            (R (.tuple #[.float .f64 ra12, .int .i64 rf, .iface rbT5 rbI5]) hv29)
            (let hv30 : Heap := hv29.push (.cells d804 101)
            0 ≤ rf ∧ rf ≤ (s.size : Nat) ∧ callX Tryz.prog 85 #[.pointer (some (⟨hv29.size, 0, none⟩ : Addr)), .string (s.extract 0 (Int.toNat rf))] hv30 [] fun v33 hv31 =>
            ∃ r17 : Bool, v33 = .bool r17 ∧
            cnd (!r17)
             (R (.tuple #[.float .f64 0, .int .i64 rf, .iface 64 (.int .i64 2)]) hv31)
             (callX Tryz.prog 86 #[.pointer (some (⟨hv29.size, 0, none⟩ : Addr)), .pointer (some (⟨5, 0, none⟩ : Addr))] hv31 [] fun v34 hv32 =>
             ∃ ra17 : Int, ∃ rb10 : Bool, v34 = .tuple #[.int .u64 ra17, .bool rb10] ∧
             callE Tryz.prog 88 #[.int .u64 ra17] fun v35 =>
             ∃ r18 : Nat, v35 = .float .f64 r18 ∧
             cnd rb10
              (R (.tuple #[.float .f64 r18, .int .i64 rf, .iface 64 (.int .i64 1)]) hv32)
              (R (.tuple #[.float .f64 r18, .int .i64 rf, .nilIface]) hv32))) ∨ ∃ (rbT7 : Nat) (rbI7 : Value), v32 = .tuple #[.float .f64 ra16, .iface rbT7 rbI7] ∧
           cnd ((FloatKind.f64).format.order ra12 ra16 == some .eq)
            (R (.tuple #[.float .f64 ra12, .int .i64 rf, .iface rbT5 rbI5]) hv29)
            (let hv33 : Heap := hv29.push (.cells d804 101)
            0 ≤ rf ∧ rf ≤ (s.size : Nat) ∧ callX Tryz.prog 85 #[.pointer (some (⟨hv29.size, 0, none⟩ : Addr)), .string (s.extract 0 (Int.toNat rf))] hv33 [] fun v36 hv34 =>
            ∃ r19 : Bool, v36 = .bool r19 ∧
            cnd (!r19)
             (R (.tuple #[.float .f64 0, .int .i64 rf, .iface 64 (.int .i64 2)]) hv34)
             (callX Tryz.prog 86 #[.pointer (some (⟨hv29.size, 0, none⟩ : Addr)), .pointer (some (⟨5, 0, none⟩ : Addr))] hv34 [] fun v37 hv35 =>
             ∃ ra18 : Int, ∃ rb11 : Bool, v37 = .tuple #[.int .u64 ra18, .bool rb11] ∧
             callE Tryz.prog 88 #[.int .u64 ra18] fun v38 =>
             ∃ r20 : Nat, v38 = .float .f64 r20 ∧
             cnd rb11
              (R (.tuple #[.float .f64 r20, .int .i64 rf, .iface 64 (.int .i64 1)]) hv35)
              (R (.tuple #[.float .f64 r20, .int .i64 rf, .nilIface]) hv35)))))))))))
      (let hv36 : Heap := hv2.push (.cells d804 101)
      0 ≤ rf ∧ rf ≤ (s.size : Nat) ∧ callX Tryz.prog 85 #[.pointer (some (⟨hv2.size, 0, none⟩ : Addr)), .string (s.extract 0 (Int.toNat rf))] hv36 [] fun v39 hv37 =>
      ∃ r21 : Bool, v39 = .bool r21 ∧
      cnd (!r21)
       (R (.tuple #[.float .f64 0, .int .i64 rf, .iface 64 (.int .i64 2)]) hv37)
       (callX Tryz.prog 86 #[.pointer (some (⟨hv2.size, 0, none⟩ : Addr)), .pointer (some (⟨5, 0, none⟩ : Addr))] hv37 [] fun v40 hv38 =>
       ∃ ra19 : Int, ∃ rb12 : Bool, v40 = .tuple #[.int .u64 ra19, .bool rb12] ∧
       callE Tryz.prog 88 #[.int .u64 ra19] fun v41 =>
       ∃ r22 : Nat, v41 = .float .f64 r22 ∧
       cnd rb12
        (R (.tuple #[.float .f64 r22, .int .i64 rf, .iface 64 (.int .i64 1)]) hv38)
        (R (.tuple #[.float .f64 r22, .int .i64 rf, .nilIface]) hv38))))))
theorem calls55s {h : Heap} {R : Value → Heap → Prop} (s : ByteArray) (H : S55s s h R) : CallsH Tryz.prog 55 #[.string s] h R := by
  have e : S55s s h R = FX (envX [] 143) { loops := [], joins := [], blocks := [], draws := [] } Tryz.f55 (Tryz.f55.body.getD .skip) [.string s] h R := by kernel_rfl
  exact calls_of_FX (envX_ok _ _) Tryz.func55 (by kernel_rfl) (by kernel_rfl) (by kernel_rfl) (e ▸ H)
end Go.Proofs.YtfjflbapojgbhaaGreatDoor
