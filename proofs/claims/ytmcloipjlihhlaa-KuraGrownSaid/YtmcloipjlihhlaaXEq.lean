/- '==' of arrays of two plain cells. Conditions: the table of types is the program's. -/
import Derived.Test.YtmcloipjlihhlaaXDet
namespace Go.X
section
variable {P : Program} {w : World}

/-- Cells that '==' looks at alone. -/
def plainC (d : TypeDesc) (x y : Value) : Option Bool :=
  match d, x, y with
  | .int .i64, .int .i64 a, .int .i64 b => some (a == b)
  | .float .f64, .float .f64 a, .float .f64 b => some (FloatKind.f64.format.order a b == some .eq)
  | _, _, _ => none
theorem plainC_eq {n t : Nat} {d : TypeDesc} {x y : Value} {r : Bool} (hu : P.underlying t = some d) (h : plainC d x y = some r) :
    (Op.equalIn (n + 1) t x y).run P w = .ok r w := by
  unfold plainC at h
  split at h
  · simp at h; subst h; simp [Op.equalIn, run_underlying hu]
  · simp at h; subst h; simp [Op.equalIn, run_underlying hu, Op.floatEq]
  · simp at h
theorem plainC_guard {n t : Nat} {d : TypeDesc} {x y : Value} {r : Bool} (hu : P.underlying t = some d) (h : plainC d x y = some r) :
    (Op.eqGuardIn (n + 1) t x y).run P w = .ok false w := by
  unfold plainC at h
  split at h
  · simp [Op.eqGuardIn, run_underlying hu]
  · simp [Op.eqGuardIn, run_underlying hu]
  · simp at h
theorem run_part1 {t : Nat} {ti : TI} (ht : TyOK P t ti) (ha : ti.agg = false) {cs : Array Value} {i : Nat} {v : Value} (h : cs[i]? = some v) (w : World) :
    (part t cs i).run P w = .ok v w := by
  simp [part, run_isAgg ht, ha, h]
theorem run_equal2 {n t e : Nat} {ei : TI} {d : TypeDesc} {xs ys : Array Value} {x0 x1 y0 y1 : Value} {r0 r1 : Bool} (hu : P.underlying t = some (.array 2 e)) (he : TyOK P e ei) (hs : ei.shs.length = 1) (ha : ei.agg = false)
    (hd : P.underlying e = some d) (hx : xs = #[x0, x1]) (hy : ys = #[y0, y1]) (h0 : plainC d x0 y0 = some r0) (h1 : plainC d x1 y1 = some r1) :
    (Op.equalIn (n + 2) t (.agg xs) (.agg ys)).run P w = .ok (r0 && r1) w := by
  subst hx; subst hy
  have p0 : ∀ w, (part e #[x0, x1] 0).run P w = .ok x0 w := run_part1 he ha (by simp)
  have p1 : ∀ w, (part e #[x0, x1] 1).run P w = .ok x1 w := run_part1 he ha (by simp)
  have q0 : ∀ w, (part e #[y0, y1] 0).run P w = .ok y0 w := run_part1 he ha (by simp)
  have q1 : ∀ w, (part e #[y0, y1] 1).run P w = .ok y1 w := run_part1 he ha (by simp)
  have e0 : (Op.equalIn (n + 1) e x0 y0).run P w = .ok r0 w := plainC_eq hd h0
  have e1 : (Op.equalIn (n + 1) e x1 y1).run P w = .ok r1 w := plainC_eq hd h1
  rw [Op.equalIn]
  simp [run_underlying hu, run_sizeOf he, hs, Std.Legacy.Range.forIn_eq_forIn_range', List.range', p0, p1, q0, q1, e0]
  cases r0 <;> cases r1 <;> simp [e1, p1, q1]
theorem run_guard2 {n t e : Nat} {ei : TI} {d : TypeDesc} {xs ys : Array Value} {x0 x1 y0 y1 : Value} {r0 r1 : Bool} (hu : P.underlying t = some (.array 2 e)) (he : TyOK P e ei) (hs : ei.shs.length = 1) (ha : ei.agg = false)
    (hd : P.underlying e = some d) (hx : xs = #[x0, x1]) (hy : ys = #[y0, y1]) (h0 : plainC d x0 y0 = some r0) (h1 : plainC d x1 y1 = some r1) :
    (Op.eqGuardIn (n + 2) t (.agg xs) (.agg ys)).run P w = .ok false w := by
  subst hx; subst hy
  have p0 : ∀ w, (part e #[x0, x1] 0).run P w = .ok x0 w := run_part1 he ha (by simp)
  have p1 : ∀ w, (part e #[x0, x1] 1).run P w = .ok x1 w := run_part1 he ha (by simp)
  have q0 : ∀ w, (part e #[y0, y1] 0).run P w = .ok y0 w := run_part1 he ha (by simp)
  have q1 : ∀ w, (part e #[y0, y1] 1).run P w = .ok y1 w := run_part1 he ha (by simp)
  have e0 : (Op.eqGuardIn (n + 1) e x0 y0).run P w = .ok false w := plainC_guard hd h0
  have e1 : (Op.eqGuardIn (n + 1) e x1 y1).run P w = .ok false w := plainC_guard hd h1
  rw [Op.eqGuardIn]
  simp [run_underlying hu, run_sizeOf he, hs, Std.Legacy.Range.forIn_eq_forIn_range', List.range', p0, p1, q0, q1, e0, e1]
theorem run_equal2s {n t e : Nat} {ei : TI} {d : TypeDesc} {f0 f1 : Field} {xs ys : Array Value} {x0 x1 y0 y1 : Value} {r0 r1 : Bool} (hu : P.underlying t = some (.struct #[f0, f1])) (hst : P.stoodInHeld t = false)
    (hn0 : f0.name ≠ "_") (hn1 : f1.name ≠ "_") (ho0 : f0.offset = 0) (ho1 : f1.offset = 1) (ht0 : f0.type = e) (ht1 : f1.type = e) (he : TyOK P e ei) (ha : ei.agg = false)
    (hd : P.underlying e = some d) (hx : xs = #[x0, x1]) (hy : ys = #[y0, y1]) (h0 : plainC d x0 y0 = some r0) (h1 : plainC d x1 y1 = some r1) :
    (Op.equalIn (n + 2) t (.agg xs) (.agg ys)).run P w = .ok (r0 && r1) w := by
  subst hx; subst hy
  have p0 : ∀ w, (part e #[x0, x1] 0).run P w = .ok x0 w := run_part1 he ha (by simp)
  have p1 : ∀ w, (part e #[x0, x1] 1).run P w = .ok x1 w := run_part1 he ha (by simp)
  have q0 : ∀ w, (part e #[y0, y1] 0).run P w = .ok y0 w := run_part1 he ha (by simp)
  have q1 : ∀ w, (part e #[y0, y1] 1).run P w = .ok y1 w := run_part1 he ha (by simp)
  have e0 : (Op.equalIn (n + 1) e x0 y0).run P w = .ok r0 w := plainC_eq hd h0
  have e1 : (Op.equalIn (n + 1) e x1 y1).run P w = .ok r1 w := plainC_eq hd h1
  rw [Op.equalIn]
  simp [run_underlying hu, hst, hn0, hn1, ho0, ho1, ht0, ht1, p0, p1, q0, q1, e0]
  cases r0 <;> cases r1 <;> simp [e1, p1, q1, hn1, ht1, ho1]
theorem run_guard2s {n t e : Nat} {ei : TI} {d : TypeDesc} {f0 f1 : Field} {xs ys : Array Value} {x0 x1 y0 y1 : Value} {r0 r1 : Bool} (hu : P.underlying t = some (.struct #[f0, f1]))
    (hn0 : f0.name ≠ "_") (hn1 : f1.name ≠ "_") (ho0 : f0.offset = 0) (ho1 : f1.offset = 1) (ht0 : f0.type = e) (ht1 : f1.type = e) (he : TyOK P e ei) (ha : ei.agg = false)
    (hd : P.underlying e = some d) (hx : xs = #[x0, x1]) (hy : ys = #[y0, y1]) (h0 : plainC d x0 y0 = some r0) (h1 : plainC d x1 y1 = some r1) :
    (Op.eqGuardIn (n + 2) t (.agg xs) (.agg ys)).run P w = .ok false w := by
  subst hx; subst hy
  have p0 : ∀ w, (part e #[x0, x1] 0).run P w = .ok x0 w := run_part1 he ha (by simp)
  have p1 : ∀ w, (part e #[x0, x1] 1).run P w = .ok x1 w := run_part1 he ha (by simp)
  have q0 : ∀ w, (part e #[y0, y1] 0).run P w = .ok y0 w := run_part1 he ha (by simp)
  have q1 : ∀ w, (part e #[y0, y1] 1).run P w = .ok y1 w := run_part1 he ha (by simp)
  have e0 : (Op.eqGuardIn (n + 1) e x0 y0).run P w = .ok false w := plainC_guard hd h0
  have e1 : (Op.eqGuardIn (n + 1) e x1 y1).run P w = .ok false w := plainC_guard hd h1
  rw [Op.eqGuardIn]
  simp [run_underlying hu, hn0, hn1, ho0, ho1, ht0, ht1, p0, p1, q0, q1, e0, e1]
theorem run_eqGuard2s {op : BinOp} {t e : Nat} {x y : Operand} {ei : TI} {d : TypeDesc} {f0 f1 : Field} {xs ys : Array Value} {x0 x1 y0 y1 : Value} {r0 r1 : Bool} (hu : P.underlying t = some (.struct #[f0, f1]))
    (hn0 : f0.name ≠ "_") (hn1 : f1.name ≠ "_") (ho0 : f0.offset = 0) (ho1 : f1.offset = 1) (ht0 : f0.type = e) (ht1 : f1.type = e) (he : TyOK P e ei) (ha : ei.agg = false)
    (hd : P.underlying e = some d) (hx : xs = #[x0, x1]) (hy : ys = #[y0, y1]) (h0 : plainC d x0 y0 = some r0) (h1 : plainC d x1 y1 = some r1) :
    (eqGuard op t x y (.agg xs) (.agg ys)).run P w = .ok () w := by
  have g := run_guard2s (n := 9998) (w := w) hu hn0 hn1 ho0 ho1 ht0 ht1 he ha hd hx hy h0 h1
  unfold eqGuard
  by_cases hg : P.eqGuardType P.depth t = true
  · cases op <;> simp [hg, Op.maxDepth, g]
  · cases op <;> simp [hg]
theorem run_eqGuard2 {op : BinOp} {t e : Nat} {x y : Operand} {ei : TI} {d : TypeDesc} {xs ys : Array Value} {x0 x1 y0 y1 : Value} {r0 r1 : Bool} (hu : P.underlying t = some (.array 2 e)) (he : TyOK P e ei) (hs : ei.shs.length = 1) (ha : ei.agg = false)
    (hd : P.underlying e = some d) (hx : xs = #[x0, x1]) (hy : ys = #[y0, y1]) (h0 : plainC d x0 y0 = some r0) (h1 : plainC d x1 y1 = some r1) :
    (eqGuard op t x y (.agg xs) (.agg ys)).run P w = .ok () w := by
  have g := run_guard2 (n := 9998) (w := w) hu he hs ha hd hx hy h0 h1
  unfold eqGuard
  by_cases hg : P.eqGuardType P.depth t = true
  · cases op <;> simp [hg, Op.maxDepth, g]
  · cases op <;> simp [hg]
end
end Go.X
