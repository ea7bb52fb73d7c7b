/- Contracts of the library's functions that the kit's shelf has, in this layer's words. Conditions: none. -/
import Derived.Test.YtfjflbapojgbhaaGreatDoorTFmt
import Derived.Test.YtfjflbapojgbhaaGreatDoorWShelf
namespace Go.Proofs.YtfjflbapojgbhaaGreatDoor.N
open Go.X Go.Proofs.YtfjflbapojgbhaaGreatDoor
open Go.RowKit (Below)
set_option maxRecDepth 100000

theorem fr_below {w w' : World} (b : Below w.heap.size w w') : Fr [] w.heap w'.heap := ⟨b.size, fun k hk _ => b.block k hk⟩
theorem rest_below {w w' : World} (b : Below w.heap.size w w') : Go.X.Rest w w' :=
  ⟨b.os, b.tape, b.output, b.size, fun k o hk _ => (b.block k (Array.getElem?_eq_some_iff.1 hk).1).trans hk⟩
theorem sy0 {h h' : Heap} (f : Fr [] h h') : Sy h [] h' [] := ⟨f, Hp.nil _, fun k c hk => by simp at hk⟩
theorem callsH_same {P : Program} {f : FuncId} {args : Array Value} {h : Heap} {v : Value} {R : Value → Heap → Prop} (c : ∀ w : World, Calls P f args w fun e w' => e = .returned v ∧ w' = w) (r : R v h) : CallsH P f args h R :=
  fun w hw => (c w).mono fun e w' ⟨h1, h2⟩ => ⟨v, h1, by rw [h2]; exact Rest.refl w, by rw [h2, hw]; exact r⟩
theorem callsH_below {P : Program} {f : FuncId} {args : Array Value} {h : Heap} {v : Value} {R : Value → Heap → Prop} (c : ∀ w : World, Calls P f args w fun e w' => e = .returned v ∧ Below w.heap.size w w') (r : ∀ h', Fr [] h h' → R v h') : CallsH P f args h R :=
  fun w hw => (c w).mono fun e w' ⟨h1, h2⟩ => ⟨v, h1, rest_below h2, by subst hw; exact r _ (fr_below h2)⟩
theorem ok124' {x y : Int} {R : Int → Int → Prop} (hx0 : 0 ≤ x) (hx : x < 18446744073709551616) (hy0 : 0 ≤ y) (hy : y < 18446744073709551616) (r : R (x * y / 18446744073709551616) (x * y % 18446744073709551616)) : Ok124 x y R := by
  intro h _
  obtain ⟨a, rfl⟩ := Int.eq_ofNat_of_zero_le hx0
  obtain ⟨b, rfl⟩ := Int.eq_ofNat_of_zero_le hy0
  refine callsH_same (v := .tuple #[.int .u64 ((a * b / 18446744073709551616 : Nat) : Int), .int .u64 ((a * b % 18446744073709551616 : Nat) : Int)]) (fun w => Go.Proofs.Tryz.bits_Mul64 a b (by omega) (by omega) w) ?_
  refine ⟨_, _, sy0 (Fr.refl _ _), rfl, ?_⟩
  have e : ((a : Int) * (b : Int)) = ((a * b : Nat) : Int) := (Int.natCast_mul a b).symm
  rw [e] at r
  exact r
/-- How many bits. -/
def bl (x : Int) : Int := Lib.bitLen x.toNat
theorem ok64' {x : Int} {R : Int → Prop} (hx0 : 0 ≤ x) (hx : x < 18446744073709551616) (r : R (bl x)) : Ok64 x R := by
  intro h _
  exact callsH_same (fun w => Go.Proofs.Tryz.bits_Len64 x w hx0 (by omega)) ⟨_, sy0 (Fr.refl _ _), rfl, r⟩
theorem ok34' {s chars : ByteArray} {R : Bool → Prop} (hs : s.size < 4294967281) (hcs : chars.size < 4294967281) (has : ∀ (j : Nat) b, s.data.toList[j]? = some b → b.toNat < 128) (hac : ∀ (j : Nat) b, chars.data.toList[j]? = some b → b.toNat < 128)
    (r : R (Lib.containsAny s.data.toList chars.data.toList)) : Ok34 s chars R := by
  intro h _
  exact callsH_below (fun w => Go.Proofs.Tryz.strings_ContainsAny_laid s chars w hs hcs has hac) fun h' f => ⟨_, sy0 f, rfl, r⟩
theorem ext_run {P : Program} {f : FuncId} {fn : Func} {e : Array Value → Sem Value} {args : Array Value} (hf : P.funcs[f]? = some fn) (hname : (fn.name == "runtime.NumGoroutine") = false) (hb : fn.body.isNone = true)
    (hn : Extern.findNext fn = none) (he : Extern.find fn = some e) (w : World) : (callFunc f args).run P w = ((e args).run P w).andThen fun v w' => .ok (.value v) w' := by
  have h1 : ¬ fn.name = "runtime.NumGoroutine" := by simpa using hname
  have h2 : fn.body = none := by simpa using hb
  simp [callFunc, hf, hn, he, h1, h2]
theorem ext_pure {P : Program} {f : FuncId} {fn : Func} {e : Array Value → Sem Value} {args : Array Value} {v : Value} (hf : P.funcs[f]? = some fn) (hname : (fn.name == "runtime.NumGoroutine") = false) (hb : fn.body.isNone = true)
    (hn : Extern.findNext fn = none) (he : Extern.find fn = some e) (hv : e args = pure v) : ExtH P f args (· = v) := by
  intro w
  refine ⟨v, w, ?_, rfl, Rest.refl w, rfl⟩
  rw [ext_run hf hname hb hn he, hv]; simp
theorem bits32 (b : Nat) : ExtH Tryz.prog 32 #[.float .f64 b] (· = .int .u64 b) :=
  ext_pure Tryz.func32 (by kernel_rfl) (by kernel_rfl) (by kernel_rfl) (e := Extern.MathFloatBits.float64bits) (by kernel_rfl) rfl
theorem bits60 (b : Nat) : ExtH Tryz.prog 60 #[.float .f64 b] (· = .int .u64 b) :=
  ext_pure Tryz.func60 (by kernel_rfl) (by kernel_rfl) (by kernel_rfl) (e := Extern.MathFloatBits.float64bits) (by kernel_rfl) rfl
theorem from13 (n : Int) : ExtH Tryz.prog 13 #[.int .u64 n] (· = .float .f64 n.toNat) :=
  ext_pure Tryz.func13 (by kernel_rfl) (by kernel_rfl) (by kernel_rfl) (e := Extern.MathFloatBits.float64frombits) (by kernel_rfl) rfl
theorem from88 (n : Int) : ExtH Tryz.prog 88 #[.int .u64 n] (· = .float .f64 n.toNat) :=
  ext_pure Tryz.func88 (by kernel_rfl) (by kernel_rfl) (by kernel_rfl) (e := Extern.MathFloatBits.float64frombits) (by kernel_rfl) rfl
theorem callE_of {f : FuncId} {args : Array Value} {v : Value} {K : Value → Prop} (h : ExtH Tryz.prog f args (· = v)) (k : K v) : callE Tryz.prog f args K := ⟨_, h, fun _ e => e ▸ k⟩
end Go.Proofs.YtfjflbapojgbhaaGreatDoor.N
