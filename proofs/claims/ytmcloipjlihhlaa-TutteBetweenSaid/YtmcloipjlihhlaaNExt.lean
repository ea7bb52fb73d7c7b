/- Functions of package math that have no Go body. Conditions: none. -/
import Derived.Test.YtmcloipjlihhlaaSEnv
import Derived.Test.YtmcloipjlihhlaaYMore
namespace Go.Proofs.Ytmcloipjlihhlaa.N
open Go.X Go.Proofs.Ytmcloipjlihhlaa
set_option maxRecDepth 100000

theorem ext_run {P : Program} {f : FuncId} {fn : Func} {e : Array Value → Sem Value} {args : Array Value} (hf : P.funcs[f]? = some fn) (hname : (fn.name == "runtime.NumGoroutine") = false) (hb : fn.body.isNone = true)
    (hn : Extern.findNext fn = none) (he : Extern.find fn = some e) (w : World) : (callFunc f args).run P w = ((e args).run P w).andThen fun v w' => .ok (.value v) w' := by
  have h1 : ¬ fn.name = "runtime.NumGoroutine" := by simpa using hname
  have h2 : fn.body = none := by simpa using hb
  simp [callFunc, hf, hn, he, h1, h2]
theorem ext_pure {P : Program} {f : FuncId} {fn : Func} {e : Array Value → Sem Value} {args : Array Value} {v : Value} (hf : P.funcs[f]? = some fn) (hname : (fn.name == "runtime.NumGoroutine") = false) (hb : fn.body.isNone = true)
    (hn : Extern.findNext fn = none) (he : Extern.find fn = some e) (hv : e args = pure v) : ExtH P f args (· = v) := by
  intro w
  refine ⟨v, w, ?_, rfl, Rest.refl w, rfl⟩
  rw [ext_run hf hname hb hn he, hv]; simp

theorem bits_ext (b : Nat) : ExtH Try.prog 149 #[.float .f64 b] (· = .int .u64 b) :=
  ext_pure Try.func149 (by kernel_rfl) (by kernel_rfl) (by kernel_rfl) (e := Extern.MathFloatBits.float64bits) (by kernel_rfl) rfl
theorem frombits_ext (n : Int) : ExtH Try.prog 45 #[.int .u64 n] (· = .float .f64 n.toNat) :=
  ext_pure Try.func45 (by kernel_rfl) (by kernel_rfl) (by kernel_rfl) (e := Extern.MathFloatBits.float64frombits) (by kernel_rfl) rfl
def isNaN (x : Nat) : Bool := (FloatKind.f64.format.read x).isNaN
def rte (x : Nat) : Nat := FloatKind.f64.encode ((FloatKind.f64.decode x).integral .even)
theorem nan_write (s : Bool) (t : Nat) (ht : t % FloatKind.f64.format.binade ≠ 0) : isNaN (FloatKind.f64.encode (.nan s t)) = true := by
  have hb : FloatKind.f64.format.binade = 4503599627370496 := by decide
  have hi : FloatKind.f64.format.infRung = 9218868437227405312 := by decide
  have hs : FloatKind.f64.format.signWeight = 9223372036854775808 := by decide
  unfold isNaN FloatKind.encode Ieee.Format.write Ieee.Format.word Ieee.Format.read
  rw [hb] at ht
  simp only [hb, hi, hs]
  have h1 : t % 4503599627370496 < 4503599627370496 := Nat.mod_lt _ (by decide)
  cases s
  · simp only [Bool.false_eq_true, if_false]
    have e : (9218868437227405312 + t % 4503599627370496) % 9223372036854775808 = 9218868437227405312 + t % 4503599627370496 := Nat.mod_eq_of_lt (by omega)
    rw [e, if_neg (by omega), if_neg (by omega), if_neg (by omega)]; rfl
  · simp only [if_true]
    have e : (9223372036854775808 + (9218868437227405312 + t % 4503599627370496)) % 9223372036854775808 = 9218868437227405312 + t % 4503599627370496 := by omega
    rw [e, if_neg (by omega), if_neg (by omega), if_neg (by omega)]; rfl
theorem nan_frac {x : Nat} {s : Bool} {t : Nat} (h : FloatKind.f64.decode x = .nan s t) : 0 < t ∧ t < 4503599627370496 := by
  have hb : FloatKind.f64.format.binade = 4503599627370496 := by decide
  have hi : FloatKind.f64.format.infRung = 9218868437227405312 := by decide
  have hs : FloatKind.f64.format.signWeight = 9223372036854775808 := by decide
  unfold FloatKind.decode Ieee.Format.read at h
  simp only [hb, hi, hs] at h
  have : x % 9223372036854775808 < 9223372036854775808 := Nat.mod_lt _ (by decide)
  split at h
  · cases h
  · split at h
    · cases h
    · split at h
      · cases h
      · cases h; omega
theorem quiet_nz (t : Nat) (ht : t < 4503599627370496) : FloatKind.f64.format.quiet t % FloatKind.f64.format.binade ≠ 0 := by
  have hb : FloatKind.f64.format.binade = 2 ^ 52 := by decide
  have hq : FloatKind.f64.format.quiet t = t ||| 2 ^ 51 := rfl
  rw [hb, hq]
  have h1 : t ||| 2 ^ 51 < 2 ^ 52 := Nat.or_lt_two_pow (by omega) (by decide)
  rw [Nat.mod_eq_of_lt h1]
  have : 2 ^ 51 ≤ t ||| 2 ^ 51 := Nat.right_le_or
  omega
def rteQ : Question := .extern "math.Floor,Ceil,Trunc,RoundToEven.signallingNaN kept" 2
theorem toI_eq (x : Nat) : Extern.MathFloor.toIntegral "math.RoundToEven" .even #[.float .f64 x] = (match FloatKind.f64.decode x with
    | .nan s t => if FloatKind.f64.format.quiet t = t then pure (.float .f64 x) else do
      let kept ← choose rteQ
      pure (.float .f64 (if kept == 1 then x else FloatKind.f64.encode (.nan s (FloatKind.f64.format.quiet t))))
    | d => pure (.float .f64 (FloatKind.f64.encode (d.integral .even)))) := rfl
theorem rte_ext (x : Nat) : ExtH Try.prog 204 #[.float .f64 x] (fun v => ∃ r, v = .float .f64 r ∧ (isNaN x = true → isNaN r = true) ∧ (isNaN x = false → r = rte x)) := by
  intro w
  rw [ext_run Try.func204 (by kernel_rfl) (by kernel_rfl) (by kernel_rfl) (e := Extern.MathFloor.toIntegral "math.RoundToEven" .even) (by kernel_rfl), toI_eq]
  cases hd : FloatKind.f64.decode x with
  | nan s t =>
    have hx : isNaN x = true := by have : FloatKind.f64.format.read x = .nan s t := hd; simp [isNaN, this, Ieee.Datum.isNaN]
    obtain ⟨t0, t1⟩ := nan_frac hd
    simp only
    split
    · exact ⟨.float .f64 x, w, by simp, rfl, Rest.refl w, x, rfl, fun _ => hx, fun h => by rw [hx] at h; cases h⟩
    · have hf : rteQ.forced = false := rfl
      refine ⟨.float .f64 (if (rteQ.cut (w.tape w.drawn rteQ) == 1) = true then x else FloatKind.f64.encode (.nan s (FloatKind.f64.format.quiet t))), w.drew, ?_, rfl, ⟨rfl, rfl, rfl⟩, _, rfl, fun _ => ?_, fun h => by rw [hx] at h; cases h⟩
      · simp [hf]
      · split
        · exact hx
        · exact nan_write s _ (quiet_nz t t1)
  | number s m i =>
    have hx : isNaN x = false := by have : FloatKind.f64.format.read x = .number s m i := hd; simp [isNaN, this, Ieee.Datum.isNaN]
    exact ⟨_, w, by simp; rfl, rfl, Rest.refl w, _, rfl, fun h => (by rw [hx] at h; cases h), fun _ => by simp [rte, hd]⟩
  | infinity s =>
    have hx : isNaN x = false := by have : FloatKind.f64.format.read x = .infinity s := hd; simp [isNaN, this, Ieee.Datum.isNaN]
    exact ⟨_, w, by simp; rfl, rfl, Rest.refl w, _, rfl, fun h => (by rw [hx] at h; cases h), fun _ => by simp [rte, hd]⟩

end Go.Proofs.Ytmcloipjlihhlaa.N
