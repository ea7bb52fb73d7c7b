/- Layer 4: begun. Conditions: none. -/
import Derived.Test.YtmcloipjlihhlaaNGr6
namespace Go.Proofs.Ytmcloipjlihhlaa.N
open Go.Proofs.Ytmcloipjlihhlaa
open Go.X
theorem okBegun74 {R : Bool → Prop} (k : R true) : Ok74 R := by
  apply ok74
  unfold T74
  refine ok161 (cnd_f rfl (ok100 ⟨by decide, by decide, by decide⟩ (cnd_f rfl ?_)))
  refine ok97 ⟨by decide, by decide, by decide⟩ (fun c => absurd c (by decide)) fun _ => ?_
  have e1 : Gr.addN ⟨[], [], 0, 0, [], [], 0⟩ = ⟨[true], [], 1, 0, [], [], 0⟩ := rfl
  rw [e1]
  refine ok97 ⟨by decide, by decide, by decide⟩ (fun c => absurd c (by decide)) fun _ => ?_
  have e2 : Gr.addN ⟨[true], [], 1, 0, [], [], 0⟩ = ⟨[true, true], [], 2, 0, [], [], 0⟩ := rfl
  rw [e2]
  refine ok98 ⟨by decide, by decide, by decide⟩ (fun c => absurd c (by decide)) (fun _ _ c => absurd c (by decide)) fun _ _ _ => ?_
  have e3 : Gr.addE ⟨[true, true], [], 2, 0, [], [], 0⟩ (((([] : List Bool).length : Nat) : Int) + 1) ((([true] : List Bool).length : Nat) + 1) = ⟨[true, true], [(1, 2, true)], 2, 1, [], [], 0⟩ := rfl
  rw [e3]
  refine ok77 ⟨by decide, by decide, by decide⟩ (fun c => absurd c (by decide)) (fun _ c => absurd c (by decide)) fun _ _ _ => ?_
  have e4 : Gr.splitG ⟨[true, true], [(1, 2, true)], 2, 1, [], [], 0⟩ (((([] : List (Int × Int × Bool)).length : Nat) : Int) + 1) = ⟨[true, true, true], [(1, 3, true), (3, 2, true)], 3, 2, [], [], 0⟩ := rfl
  rw [e4]
  refine ok101 ⟨by decide, by decide, by decide⟩ (by decide) (fun c => absurd c (by decide)) fun _ => ?_
  have e5 : Gr.markG ⟨[true, true, true], [(1, 3, true), (3, 2, true)], 3, 2, [], [], 0⟩ = ⟨[true, true, true], [(1, 3, true), (3, 2, true)], 3, 2, [], [(1, 0)], 1⟩ := rfl
  rw [e5]
  have e6 : Gr.at ⟨[true, true, true], [(1, 3, true), (3, 2, true)], 3, 2, [], [(1, 0)], 1⟩ 3 = [1, 2] := rfl
  refine ok78 (v := 3) ⟨by decide, by decide, by decide⟩ (fun c => absurd c (by decide)) (fun _ c => absurd (c 1 2 e6) (by decide)) (fun k f _ q _ _ => ?_) (by rw [e6]; decide)
  have q' : [1, 2] = [k, f] := e6.symm.trans q
  simp only [List.cons.injEq, and_true] at q'
  obtain ⟨rfl, rfl⟩ := q'
  have e7 : Gr.unsplitG ⟨[true, true, true], [(1, 3, true), (3, 2, true)], 3, 2, [], [(1, 0)], 1⟩ 3 1 2 = ⟨[true, true, false], [(1, 2, true), (3, 2, false)], 2, 1, [.ends 1 1 3, .edge 2, .node 3], [(1, 0)], 1⟩ := rfl
  rw [e7]
  refine ok79 ⟨by decide, by decide, by decide⟩ (fun x hx => ?_) ?_
  · simp only [List.mem_cons, List.not_mem_nil, or_false] at hx
    rcases hx with rfl | rfl
    · exact fun _ => by decide
    · exact fun c => by cases c
  refine cnd_t rfl (cnd_t rfl (cnd_t rfl (cnd_t rfl (cnd_t rfl (cnd_t rfl (cnd_t rfl (cnd_t rfl (cnd_t rfl (cnd_t rfl (cnd_t rfl ?_))))))))))
  refine ok104 ⟨by decide, by decide, by decide⟩ (by decide) (fun c => absurd rfl (c (1, 0) (by simp))) fun i d hi hno => ?_
  have i0 : i = 0 := by
    have := (List.getElem?_eq_some_iff.1 hi).1
    simpa using this
  subst i0
  have hd : d = 0 := by
    have : ((1, 0) : Int × Int) = (w64 ((0 : Int) + 1), d) := Option.some.inj hi
    exact (Prod.ext_iff.1 this).2.symm
  subst hd
  exact ⟨by decide, ⟨⟨.node 3, rfl, by decide, by decide⟩, ⟨.edge 2, rfl, by decide, by decide⟩, ⟨.ends 1 1 3, rfl, by decide, by decide, by decide, by decide⟩, trivial⟩, k⟩
end Go.Proofs.Ytmcloipjlihhlaa.N
