/- What a row tells of structs of four numbers, and of slices of them, that come in. Conditions: none. -/
import Derived.Test.YtmcloipjlihhlaaXOpen2
import Derived.Lib.SmallJoins
namespace Go.X
open Go.ChangeShapes Go.WideShapes Go.ChangeAt Go.RowKit Go.Deep Go.Joins
section
variable {H : Type} {enc : TypeId × Value → H} {P : Program} {W : World} {base : Nat}
theorem op4_open {r : Reach} {b0 : Nat} {t ti : TypeId} {f0 f1 f2 f3 : Field} {v : Value} {d : DataW H} {p : List MemPlace} (ht : P.underlying t = some (.struct #[f0, f1, f2, f3])) (hone : oneCellFields P #[f0, f1, f2, f3] = true) (hC : P.cellsOf t = 4)
    (h0 : f0.type = ti) (h1 : f1.type = ti) (h2 : f2.type = ti) (h3 : f3.type = ti) (hi : P.underlying ti = some (.int .i64)) (hv : Value.okWide P W r b0 t v) (h : DataW.Trod enc P W base (fun _ => true) true t v d p) :
    ∃ a b c d : Int, v = .agg #[.int .i64 a, .int .i64 b, .int .i64 c, .int .i64 d] := by
  obtain ⟨v0, v1, v2, v3, y0, y1, y2, y3, n, rfl, -, -, t0, t1, t2, t3⟩ := open_agg4 ht hone hC hv h
  obtain ⟨a, ha, _⟩ := DataW.trod_int (h0 ▸ hi) t0
  obtain ⟨b, hb, _⟩ := DataW.trod_int (h1 ▸ hi) t1
  obtain ⟨c, hc, _⟩ := DataW.trod_int (h2 ▸ hi) t2
  obtain ⟨d, hd, _⟩ := DataW.trod_int (h3 ▸ hi) t3
  simp at ha hb hc hd
  exact ⟨a, b, c, d, by rw [ha, hb, hc, hd]⟩
end
end Go.X
