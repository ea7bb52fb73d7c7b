/- Package graph: a nil graph; law GraphNone. Conditions: none. -/
import Derived.Test.YtmcloipjlihhlaaNGrB
import Derived.Test.YtmcloipjlihhlaaNIterG
import Derived.Test.YtmcloipjlihhlaaSNone
namespace Go.Proofs.Ytmcloipjlihhlaa.N
open Go.Proofs.Ytmcloipjlihhlaa
open Go.X
section
variable {h : Heap} {H : List Nat} {K : Value → Heap → Prop} {u v e : Int}
/-- A call that leaves the heap as it is. -/
def NC (n : Nat) (args : Array Value) (r : Value) : Prop := ∀ h : Heap, CallsH Try.prog n args h fun v h' => h' = h ∧ v = r
theorem NC.step {n : Nat} {args : Array Value} {r : Value} (c : NC n args r) (k : K r h) : callX Try.prog n args h H K :=
  callX_sy (MA := []) (c h) (fun _ _ q => q.1 ▸ Fr.refl _ _) (fun _ _ q => by cases q) fun _ _ ⟨q1, q2⟩ => by subst q1; subst q2; exact k
theorem nil162 : NC 162 #[.pointer none] (.bool true) := fun h => calls162 _ (by unfold S162; exact cnd_t rfl ⟨rfl, rfl⟩)
theorem nil97 : NC 97 #[.pointer none] (.tuple #[.int .i64 0, .int .i64 1]) := fun h => calls97 _ (by unfold S97; exact nil162.step ⟨true, rfl, cnd_t rfl ⟨rfl, rfl⟩⟩)
theorem nil98 : NC 98 #[.pointer none, .int .i64 u, .int .i64 v] (.tuple #[.int .i64 0, .int .i64 1]) := fun h => calls98 _ _ _ (by unfold S98; exact nil162.step ⟨true, rfl, cnd_t rfl ⟨rfl, rfl⟩⟩)
theorem nil99 : NC 99 #[.pointer none, .int .i64 v] (.tuple #[.int .i64 0, .int .i64 1]) := fun h => calls99 _ _ (by unfold S99; exact nil162.step ⟨true, rfl, cnd_t rfl ⟨rfl, rfl⟩⟩)
theorem nil77 : NC 77 #[.pointer none, .int .i64 e] (.tuple #[.int .i64 0, .int .i64 0, .int .i64 1]) := fun h => calls77 _ _ (by unfold S77; exact nil162.step ⟨true, rfl, cnd_t rfl ⟨rfl, rfl⟩⟩)
theorem nil78 : NC 78 #[.pointer none, .int .i64 v] (.tuple #[.int .i64 0, .int .i64 1]) := fun h => calls78 _ _ (by unfold S78; exact nil162.step ⟨true, rfl, cnd_t rfl ⟨rfl, rfl⟩⟩)
theorem nil76 : NC 76 #[.pointer none, .int .i64 e] (.tuple #[.int .i64 0, .int .i64 0, .int .i64 1]) := fun h => calls76 _ _ (by unfold S76; exact nil162.step ⟨true, rfl, cnd_t rfl ⟨rfl, rfl⟩⟩)
theorem nil101 : NC 101 #[.pointer none] (.int .i64 0) := fun h => calls101 _ (by unfold S101; exact nil162.step ⟨true, rfl, cnd_t rfl ⟨rfl, rfl⟩⟩)
theorem nil102 : NC 102 #[.pointer none, .int .i64 e] (.int .i64 1) := fun h => calls102 _ _ (by unfold S102; exact nil162.step ⟨true, rfl, cnd_t rfl ⟨rfl, rfl⟩⟩)
theorem nil103 : NC 103 #[.pointer none, .int .i64 e, .int .i64 u, .int .i64 v] (.int .i64 1) := fun h => calls103 _ _ _ _ (by unfold S103; exact nil162.step ⟨true, rfl, cnd_t rfl ⟨rfl, rfl⟩⟩)
theorem nil104 : NC 104 #[.pointer none, .int .i64 e] (.int .i64 1) := fun h => calls104 _ _ (by unfold S104; exact nil162.step ⟨true, rfl, cnd_t rfl ⟨rfl, rfl⟩⟩)
theorem nil105 : NC 105 #[.pointer none] (.pointer none) := fun h => calls105 _ (by unfold S105; exact nil162.step ⟨true, rfl, cnd_t rfl ⟨rfl, rfl⟩⟩)
theorem nil79 : ∀ h : Heap, CallsH Try.prog 79 #[.pointer none] h fun v h' => Fr [] h h' ∧ v = .tuple #[.agg #[.int .i64 0, .slice none 0 0], .slice none 0 0, .slice none 0 0] := by
  intro h
  refine calls79 _ ?_
  unfold S79
  intro hv
  have F : Fr [] h hv := Fr.push h _
  refine nil162.step ⟨true, rfl, cnd_t rfl ?_⟩
  intro hv3
  exact ⟨(F.hsetr (.inl (Nat.le_refl _))).hsetr (.inl (Nat.le_refl _)), rfl⟩
theorem nil100 : ∀ h : Heap, CallsH Try.prog 100 #[.pointer none, .int .i64 v] h fun r h' => h' = h.push (.cells #[.slice none 0 0] 40) ∧ r = .func (.func 185) #[] #[.pointer (some ⟨h.size, 0, none⟩)] := by
  intro h
  refine calls100 _ _ ?_
  unfold S100
  intro hv
  exact nil162.step ⟨true, rfl, cnd_f rfl ⟨rfl, rfl⟩⟩
theorem shut_cellG {B : Nat} {a b : Heap} (s : Shut B a b) {c o : Nat} {v : Value} (h : hcell a c o = some v) : hcell b c o = some v := by
  have e : b[c]? = a[c]? := s.2 c (.inr (by
    unfold hcell at h
    split at h
    · rename_i x t f hx; exact ⟨x, t, f, hx⟩
    · cases h))
  rw [hcell_congr e]; exact h
theorem shut_frG {h a b : Heap} (s : Shut h.size a b) (f : Fr [] h a) : Fr [] h b := ⟨by rw [s.1]; exact f.size, fun x hx hm => (s.2 x (.inl hx)).trans (f.blk x hx hm)⟩
set_option maxHeartbeats 2000000 in
theorem GraphNone_ok {a b c d : Int} {h : Heap} : CallsH Try.prog 22 #[.agg #[.int .i64 a, .int .i64 b, .int .i64 c, .int .i64 d]] h fun v h' => Fr [] h h' ∧ v = .bool true := by
  refine calls22 _ _ _ _ ?_
  unfold S22
  have Y : Sy h [] h [] := ⟨Fr.refl _ _, Hp.nil h, fun k c hk => by simp at hk⟩
  intro hv
  have Y : Sy h [] hv [_] := Y.newO _
  intro hv2
  have Y : Sy h [] hv2 [_, _] := Y.newO _
  refine callX_sy (okBegun74 (R := fun r => r = true) rfl hv2 (Hp.nil _)) (fun _ _ ⟨_, p, _⟩ => p.fr) alln ?_
  rintro _ hv3 ⟨_, P, rfl, rfl⟩
  have Y : Sy h [] hv3 [_, _] := Y.gr P.fr
  refine ⟨true, rfl, cnd_f rfl ?_⟩
  refine nil97.step ⟨_, _, rfl, _, Y.cellO 0 rfl 1 rfl, _, Y.cellO 0 rfl 2 rfl, ?_⟩
  refine nil98.step ⟨_, _, rfl, _, Y.cellO 0 rfl 1 rfl, ?_⟩
  refine nil99.step ⟨_, _, rfl, _, Y.cellO 0 rfl 1 rfl, ?_⟩
  refine nil77.step ⟨_, _, _, rfl, _, Y.cellO 0 rfl 1 rfl, ?_⟩
  refine nil78.step ⟨_, _, rfl, _, Y.cellO 0 rfl 1 rfl, ?_⟩
  refine nil76.step ⟨_, _, _, rfl, ?_⟩
  refine callX_sy (nil79 hv3) (fun _ _ q => q.1) alln ?_
  rintro _ hv11 ⟨F, rfl⟩
  have Y : Sy h [] hv11 [_, _] := Y.gr F
  refine ⟨_, _, _, _, _, _, _, _, _, _, rfl, ?_⟩
  intro hv12
  have Y : Sy h [] hv12 [_, _, _] := Y.newO _
  refine ⟨⟨_, Y.cellO 2 rfl 0 rfl⟩, Y.freeO 2 rfl _, ⟨_, Y.cellO 2 rfl 1 rfl⟩, Y.freeO 2 rfl _, ?_⟩
  intro hv13
  have Y : Sy h [] hv13 [_, _, _] := (Y.stO 2 rfl 0 _).stO 2 rfl 1 _
  clear_value hv13
  refine ⟨_, Y.cellO 0 rfl 1 rfl, ?_⟩
  refine callX_sy (nil100 hv13) (fun _ h' q => q.1 ▸ Fr.push hv13 _) alln ?_
  rintro _ hv14 ⟨e14, rfl⟩
  have Y : Sy h [] hv14 [_, _, _, _] := e14 ▸ Y.newO _
  refine ⟨_, _, _, rfl, cnd_f rfl ?_⟩
  refine ⟨_, Y.cellO 0 rfl 1 rfl, ?_⟩
  refine callX_sy (nil100 hv14) (fun _ h' q => q.1 ▸ Fr.push hv14 _) alln ?_
  rintro _ hv16 ⟨e16, rfl⟩
  have Y : Sy h [] hv16 [_, _, _, _, _] := e16 ▸ Y.newO _
  refine ⟨_, _, _, rfl, 185, _, rfl, by kernel_rfl, [], [], fun _ h1 => h1 = hv16, by simp, ?_, rfl, fun i j h1 hv17 hi => absurd hi (Nat.not_lt_zero _), ?_⟩
  · refine iter185 (ord := []) (oA := none) (oC := 0) (M := []) ?_ (by simp) (Y.cellO 4 rfl 0 rfl) ⟨rfl, .inl ⟨rfl, rfl⟩⟩ (by simp [rdOf]) (by decide)
    rw [e16]; simp
  · rintro h1 hv19 rfl _ F
    have Y : Sy h [] hv19 [_, _, _, _, _] := Y.gr F
    refine ⟨_, Y.cellO 2 rfl 0 rfl, _, _, _, Y.cellO 2 rfl 1 rfl, ?_⟩
    have F0 : Fr [] hv19 hv19 := Fr.refl _ _
    refine nil101.step ⟨_, rfl, F0, cnd_t (by rfl) (cnd_t rfl (cnd_t rfl (cnd_t rfl (cnd_t rfl (cnd_t rfl (cnd_t rfl ?_))))))⟩
    refine ⟨_, Y.cellO 0 rfl 1 rfl, nil102.step ⟨_, rfl, F0, cnd_t rfl ?_⟩⟩
    refine ⟨_, Y.cellO 0 rfl 1 rfl, _, Y.cellO 0 rfl 2 rfl, _, Y.cellO 0 rfl 3 rfl, nil103.step ⟨_, rfl, F0, cnd_t rfl ?_⟩⟩
    refine ⟨_, Y.cellO 0 rfl 1 rfl, nil104.step ⟨_, rfl, F0, cnd_t rfl ?_⟩⟩
    refine nil105.step ⟨_, rfl, F0, ⟨_, Y.cellO 1 rfl 0 rfl⟩, Y.freeO 1 rfl _, ?_⟩
    intro hv25
    have Y : Sy h [] hv25 [_, _, _, _, _] := Y.stO 1 rfl 0 _
    intro hz s
    exact ⟨_, shut_cellG s (Y.cellO 1 rfl 0 rfl), shut_frG s Y.fr, rfl⟩
end
end Go.Proofs.Ytmcloipjlihhlaa.N
