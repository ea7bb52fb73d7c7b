/- Slices of numbers that come in, with what their kind bounds. Conditions: none. -/
import Derived.Test.YtfjflbapojgbhaaGreatDoorXOpen2
namespace Go.X
open Go.ChangeShapes Go.WideShapes Go.ChangeAt Go.RowKit Go.Deep

def eR (k : IntKind) : En {x : Int // (Lit.int k x).wf = true} := ⟨1, fun x => [.int k x.1], by decide, fun _ => rfl, fun x v h => by simp at h; subst h; rfl⟩
theorem eR_l (k : IntKind) : ∀ xs, (eR k).l xs = (eK k).l (xs.map Subtype.val)
  | [] => rfl
  | x :: r => by
    show (eR k).enc x ++ (eR k).l r = (eK k).enc x.1 ++ (eK k).l (r.map Subtype.val)
    rw [eR_l k r]; rfl
theorem zero_wf (k : IntKind) : (Lit.int k 0).wf = true := by cases k <;> decide
section
variable {H : Type} {enc : TypeId × Value → H} {P : Program} {W : World} {base : Nat}
theorem ints_open (k : IntKind) {t e : TypeId} {a : Option Addr} {len cap : Nat} {d : DataW H} {p : List MemPlace} (ht : P.underlying t = some (.slice e)) (he : P.underlying e = some (.int k)) (hc : P.cellsOf e = 1)
    (hs : ∀ x, a = some x → x.spot = none) (h : DataW.Trod enc P W base (fun _ => true) true t (.slice a len cap) d p) :
    ∃ xs : List Int, (Ck.vw (eK k) a len cap xs).ok W.heap ∧ (xs.length = 0 ∨ ∃ el sp, d = .slice el sp ∧ el.length = xs.length) ∧ ∀ x ∈ xs, (Lit.int k x).wf = true := by
  have : Inhabited {x : Int // (Lit.int k x).wf = true} := ⟨⟨0, zero_wf k⟩⟩
  obtain ⟨xs, h1, h2⟩ := vw_open (eR k) (enc := enc) (base := base) ht hc hs (fun n cs y q => by
    obtain ⟨m, rfl, _, hw⟩ := DataW.trod_int he q
    exact ⟨⟨m, hw⟩, rfl⟩) h
  refine ⟨xs.map Subtype.val, ?_, by simpa using h2, fun x hx => ?_⟩
  · obtain ⟨r1, r2, r3⟩ := h1
    have r1 : Reads W.heap (eK k).sz a len ((eR k).l xs) := r1
    rw [eR_l] at r1
    exact ⟨r1, by simpa using r2, r3⟩
  · obtain ⟨y, _, rfl⟩ := List.mem_map.1 hx
    exact y.2
end
end Go.X
