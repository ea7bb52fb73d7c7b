/- From a contract over heaps to what a row asks of a call that leaves all as it was. Conditions: none. -/
import Derived.Test.YtmcloipjlihhlaaXU
import Derived.WalkKit
import Derived.ProofKit
import Derived.OpenShut
namespace Go.X
open Go.ChangeShapes Go.WideShapes Go.ChangeAt Go.RowKit

/-- What stood is as it was; its blocks are frozen as they were. -/
structure Stood (W W' : World) : Prop where
  kept : W.keptBut W' (fun _ => False)
  fz : ∀ a, a.block < W.heap.size → W'.frozen? a = W.frozen? a

theorem Stood.of {W W' : World} (r : Rest W W') (f : Fr [] W.heap W'.heap) : Stood W W' := by
  refine ⟨⟨r.os, r.output, fun i hi => ?_⟩, fun a ha => ?_⟩
  · rw [f.blk i hi (by simp)]
    cases W.heap[i]? with
    | none => trivial
    | some o => cases o <;> simp
  · simp only [World.frozen?, f.blk a.block ha (by simp)]

theorem postOld {H : Type} {enc : TypeId × Value → H} {P : Program} {f : Func} {s : ChangeSpec} {apart fresh handsOn again : Bool} {W W' : World} {args : Array Value} {v : Value} {ds gs : List (DataW H)} {before : List MemPlace} {pa pv : List MemPlace}
    (hW : DataW.Whole enc P f.params.toList s.vars apart W args.toList ds gs before) (st : Stood W W')
    (hr : ∀ (b : Nat) (sp : Nat → Bool) (hd : Bool), DataW.TrodAll enc P W' b sp hd f.resultTypes.toList (v.resultList f.resultTypes.size) (s.fn H (ds ++ gs)).results [])
    (ha : ∀ sp : Nat → Bool, (∀ p ∈ before, sp p.block = true) → DataW.TrodAll enc P W' 0 sp true f.params.toList args.toList (s.fn H (ds ++ gs)).args pa)
    (hv : ∀ sp : Nat → Bool, (∀ p ∈ before, sp p.block = true) → DataW.TrodVars enc P W' sp s.vars (s.fn H (ds ++ gs)).vars pv)
    (hb : before = pa ++ pv)
    (ok : ∀ (j : Nat) (t : TypeId) (r : Value), f.resultTypes[j]? = some t → (v.resultList f.resultTypes.size)[j]? = some r → Value.okWide P W' .any 0 t r) :
    s.post enc P f apart fresh handsOn again W args v W' := by
  have lt := hW.lt
  have old : ∀ p ∈ before, decide (p.block < W.heap.size) = true := fun p hp => decide_eq_true (lt p hp)
  have hW2 := hW
  obtain ⟨_, _, _, _, _, z, nd⟩ := hW2
  subst hb
  refine ⟨ds, gs, pa ++ pv, [], pa, pv, hW, hr _ _ _, ha _ old, hv _ old, World.keptBut_mono (fun _ h => h.elim) st.kept, fun _ => ⟨ok, _, _, pa ++ pv, ⟨[] ++ pa, pv, trodAll_append (ha _ fun _ _ => rfl) (hr _ _ _), hv _ fun _ _ => rfl, rfl, ?_, ?_⟩, ?_⟩⟩
  · intro b off hp
    have hp' : MemPlace.cell b off ∈ pa ++ pv := by simpa using hp
    rw [st.fz ⟨b, off, none⟩ (lt _ hp')]
    exact z b off hp'
  · intro h
    simpa using nd h
  · intro p hp _
    simpa using hp

/-- A contract over heaps, as calls of worlds. -/
theorem calls_stood {P : Program} {f : FuncId} {args : Array Value} {v : Value} {W : World} (c : CallsH P f args W.heap fun v' h' => Fr [] W.heap h' ∧ v' = v) :
    Calls P f args W fun e w' => e = .returned v ∧ Stood W w' :=
  (c W rfl).mono fun e w' ⟨u, h1, h2, h3, h4⟩ => ⟨by rw [h1, h4], Stood.of h2 h3⟩

end Go.X
