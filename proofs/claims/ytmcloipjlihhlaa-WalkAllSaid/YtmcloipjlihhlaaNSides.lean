/- Ways up, rounds: closed, odd, no edge twice; sides; components as the document finds them. Conditions: none. -/
import Derived.Test.YtmcloipjlihhlaaTWalkL
import Derived.Test.YtmcloipjlihhlaaNBegunW
namespace Go.Proofs.Ytmcloipjlihhlaa.N
open Go.X Go.Proofs.Ytmcloipjlihhlaa
set_option maxRecDepth 100000

def farN (t : BT) (v : Int) : Nat := (t.far.getD v.toNat 0).toNat
theorem BI.farB {g : Int} {es : Es} {s : Int} {t : BT} (i : BI g es s t) {v : Int} (hv : v ∈ t.ord) : (farN t v : Int) = t.far.getD v.toNat 0 ∧ farN t v < g.toNat := by
  have hr := i.rng v hv
  have h1 := (i.mem v hr.1 hr.2).2 hv
  have h2 := i.bnd v hr.1 hr.2
  have h3 := i.len
  unfold farN
  omega
/-- A node that is not where the walk began, and its half-edge. -/
structure Par (es : Es) (t : BT) (v : Int) (h : Nat) : Prop where
  e : t.by'.getD v.toNat 0 = h
  hh : h < 2 * es.length
  to' : toH es h = v
  fr : fromH es h ∈ t.ord
  far : farN t v = farN t (fromH es h) + 1
theorem BI.par {g : Int} {es : Es} {s : Int} {t : BT} (i : BI g es s t) {v : Int} (hv : v ∈ t.ord) (hs : v ≠ s) : ∃ h, Par es t v h := by
  obtain ⟨h, e1, e2, e3, e4, e5⟩ := i.tree v hv hs
  have a := i.farB hv
  have b := i.farB e4
  exact ⟨h, e1, e2, e3, e4, by omega⟩
end Go.Proofs.Ytmcloipjlihhlaa.N
