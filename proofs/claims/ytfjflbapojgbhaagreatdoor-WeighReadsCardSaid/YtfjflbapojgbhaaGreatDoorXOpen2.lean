/- What a row tells of slices and structs that come in, as views. Conditions: none. -/
import Derived.Test.YtfjflbapojgbhaaGreatDoorYMore
import Derived.Test.YtfjflbapojgbhaaGreatDoorXPost
import Derived.Below
import Derived.Deep.Slices
import Derived.ChangeOld
import Derived.Carry
namespace Go.X
open Go.ChangeShapes Go.WideShapes Go.ChangeAt Go.RowKit Go.Deep

theorem calls_below {P : Program} {f : FuncId} {args : Array Value} {v : Value} {W : World} (c : CallsH P f args W.heap fun v' h' => Fr [] W.heap h' ∧ v' = v) :
    Calls P f args W fun e w' => e = .returned v ∧ Below W.heap.size W w' :=
  (c W rfl).mono fun e w' ⟨u, h1, h2, h3, h4⟩ => ⟨by rw [h1, h4], ⟨h2.os, h2.tape, h2.output, h3.size, fun k hk => h3.blk k hk (by simp)⟩⟩
theorem spot_of {P : Program} {w : World} {r : Reach} {base : Nat} {t e : TypeId} {a : Addr} {len cap : Nat} (ht : P.underlying t = some (.slice e)) (h : Cell.okWide P w r base t (.slice (some a) len cap)) : a.spot = none := by
  simp only [Cell.okWide, ht, Cell.ok] at h
  exact h.2.2.2.1
theorem spot_wide {P : Program} {w : World} {r : Reach} {base : Nat} {t e : TypeId} {a : Addr} {len cap : Nat} (ht : P.underlying t = some (.slice e)) (h : Value.okWide P w r base t (.slice (some a) len cap)) : a.spot = none := by
  simp only [Value.okWide, ht] at h
  exact spot_of ht h
section
variable {H : Type} {enc : TypeId × Value → H} {P : Program} {W : World} {base : Nat}

end
theorem owns_nil {cs : List Ck} (h : owns cs = []) {k : Nat} {d : Ck} (hd : cs[k]? = some d) : ∀ b, b ∉ d.own := fun b hb => by
  have : b ∈ owns cs := List.mem_flatMap.2 ⟨d, List.mem_of_getElem? hd, hb⟩
  rw [h] at this; simp at this
/-- A further view. -/
theorem Hp.vw {h : Heap} {c : Ck} {cs : List Ck} (hc : c.ok h) (ho : c.own = []) (H : Hp h cs) (hn : owns cs = []) : Hp h (c :: cs) :=
  Hp.view hc ho H fun _ _ hd b hb => absurd hb (owns_nil hn hd b)
end Go.X
