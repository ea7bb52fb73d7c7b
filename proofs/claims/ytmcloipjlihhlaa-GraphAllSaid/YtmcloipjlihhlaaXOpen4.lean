/- What a row tells of structs of four numbers, and of slices of them, that come in. Conditions: none. -/
import Derived.Test.YtmcloipjlihhlaaXOpen2
import Derived.Lib.SmallJoins
namespace Go.X
open Go.ChangeShapes Go.WideShapes Go.ChangeAt Go.RowKit Go.Deep Go.Joins
section
variable {H : Type} {enc : TypeId × Value → H} {P : Program} {W : World} {base : Nat}
theorem list4 {α : Type} {l : List α} (h : l.length = 4) : ∃ a b c d, l = [a, b, c, d] := by
  obtain ⟨a, b, c, d, e⟩ := array4 (cs := l.toArray) (by simpa using h)
  exact ⟨a, b, c, d, by simpa using congrArg Array.toList e⟩
theorem el_four {n : Nat} {t ti : TypeId} {f0 f1 f2 f3 : Field} {cs : List Value} {y : DataW H × List MemPlace} (ht : P.underlying t = some (.struct #[f0, f1, f2, f3])) (hone : oneCellFields P #[f0, f1, f2, f3] = true) (hC : P.cellsOf t = 4)
    (h0 : f0.type = ti) (h1 : f1.type = ti) (h2 : f2.type = ti) (h3 : f3.type = ti) (hi : P.underlying ti = some (.int .i64)) (h : DataW.trod enc P W base (fun _ => true) true n t cs = some y) : ∃ x : Int × Int × Int × Int, cs = e4.enc x := by
  obtain ⟨y0, y1, y2, y3, m, _, hl, t0, t1, t2, t3⟩ := trod_struct4 ht h
  obtain ⟨o0, k0⟩ := hone_of hone 0 f0 rfl
  obtain ⟨o1, k1⟩ := hone_of hone 1 f1 rfl
  obtain ⟨o2, k2⟩ := hone_of hone 2 f2 rfl
  obtain ⟨o3, k3⟩ := hone_of hone 3 f3 rfl
  rw [hC] at hl
  obtain ⟨c0, c1, c2, c3, rfl⟩ := list4 hl
  rw [o0, k0] at t0
  rw [o1, k1] at t1
  rw [o2, k2] at t2
  rw [o3, k3] at t3
  obtain ⟨a, ha, _⟩ := DataW.trod_int (h0 ▸ hi) t0
  obtain ⟨b, hb, _⟩ := DataW.trod_int (h1 ▸ hi) t1
  obtain ⟨c, hc, _⟩ := DataW.trod_int (h2 ▸ hi) t2
  obtain ⟨d, hd, _⟩ := DataW.trod_int (h3 ▸ hi) t3
  simp at ha hb hc hd
  exact ⟨(a, b, c, d), by simp [e4, ha, hb, hc, hd]⟩
end
end Go.X
