/- GraphmlWrites returns true whatever the input, and what stood in memory is as it was; the tables are as the program's text lays them. Conditions: none. -/
import Derived.Test.YtlflalecmhgmjaaGreatDoorCards
import Derived.Test.YtlflalecmhgmjaaGreatDoorTie
import Derived.Test.YtlflalecmhgmjaaGreatDoorQGxw
import Derived.Test.YtlflalecmhgmjaaGreatDoorWDoc
import Derived.WalkKit
import Derived.ProofKit
import Derived.OpenShut
import Derived.ShutString
import Derived.SevenTiedAt
set_option linter.unusedVariables false
set_option linter.unusedSimpArgs false
namespace Go.Proofs.YtlflalecmhgmjaaGreatDoor.graphmlWrites
open Go.ChangeShapes Go.WideShapes Go.ChangeAt Go.RowKit
theorem own : ownKnob Tryz.prog.godebug = none := by kernel_rfl
theorem laidOut : laidOutB Tryz.prog = true := by kernel_rfl
set_option maxRecDepth 100000 in
theorem lifted (os : Os) (started : os.Started) (H : Type) (enc : TypeId × Value -> H) :
  ReturnsInHanded {} Tryz.checked os 12 .any (fun w args => (Rows.graphmlWritesSpec.pre enc Tryz.prog Tryz.f12 [] false w args /\ laidMetH Tryz.prog Rows.graphmlWritesRow.laid w) /\ sizedMet enc Tryz.prog Tryz.f12 (OpenSpec.ofChange Rows.graphmlWritesSpec) false w args)
   (Rows.graphmlWritesSpec.post enc Tryz.prog Tryz.f12 false true false false) := by
 refine Go.X.ib (C := Tryz.checked) (X := fun w _ => laidMetH Tryz.prog Rows.graphmlWritesRow.laid w) (fun _ _ _ hh h => h.of_heap hh) own started (by kernel_rfl) Tryz.func12
  (ChangeSpec.witness_shaped (enc := enc) (C := Tryz.checked) (os := os) (X := fun w _ => laidMetH Tryz.prog Rows.graphmlWritesRow.laid w) false (World.laidAll Tryz.prog os Rows.gmlLabelsRow.laid) #[.agg #[.int .i64 0, .slice none 0 0, .bool false, .slice none 0 0, .slice none 0 0, .slice none 0 0]] 8 (World.laidAll_os _ _ _)
   (World.shaped_of_ZipB (by kernel_rfl) (by kernel_rfl)) (by kernel_rfl) (by kernel_rfl) (by kernel_rfl) (N.met os _)) ?_
 intro W base args ds gs before hval0 hW hL hS
 have hval : ∀ (j : Nat) t v, Tryz.f12.params[j]? = some t -> args[j]? = some v -> Value.okWide Tryz.prog W .any base t v := hval0
 have hW' := hW
 obtain ⟨p, q, hA0, hV, rfl, hfz, hnd⟩ := hW
 have hA : DataW.TrodAll enc Tryz.prog W 0 (fun _ => true) true Tryz.f12.params.toList args.toList ds p := hA0
 rw [Tryz.params12] at hA hval
 obtain ⟨v0, vs0, d0, ds0, p0, q0, hargs, rfl, rfl, h0, r0⟩ := trodAll_cons hA
 obtain ⟨rfl, rfl, rfl⟩ := trodAll_nil r0
 obtain rfl : args = #[v0] := by cases args; simp_all
 obtain ⟨rfl, rfl⟩ := trodVars_none hV
 have lt0 : ∀ x ∈ p0, x.block < W.heap.size := by obtain ⟨m, hm⟩ := h0; exact DataW.trod_lt m _ _ _ hm
 obtain ⟨m0, u0, D0⟩ := N.wJ (enc := enc) (hval 0 29 v0 rfl rfl) h0
 obtain rfl := D0.v
 obtain ⟨gl, hG⟩ := N.Fh hL hS
 clear hA0 hval0
 refine (Go.X.qH (v := Value.bool true) ((N.tB (Go.X.Hp.vw (c := Go.X.Ck.glob gl) hG rfl (Go.X.Hp.vw D0.eE rfl (Go.X.Hp.vw D0.eL rfl (Go.X.Hp.vw D0.eS rfl (Go.X.Hp.vw D0.eW rfl (Go.X.Hp.nil _) rfl) rfl) rfl) rfl) rfl) D0.ls D0.ss D0.ws).mono fun v' h' r => ⟨r.2, r.1⟩)).mono fun e W' ⟨he, bel⟩ => ?_
 subst he
 exact ⟨_, rfl, _, _, _, [], _, [], hW', trodAll_mk1 (shut_bool Tryz.underlying4 _), (trodAll_cons_mk (Below.trod laidOut (by kernel_rfl) (of_decide_eq_true (by kernel_rfl)) h0 bel lt0) trodAll_mk0), rfl, bel.frame _, fun h => by cases h⟩
set_option maxRecDepth 100000
theorem fact0 : (Rows.graphmlWritesRow.wf (OpenSpec.ofChange Rows.graphmlWritesSpec)) = true := by kernel_rfl
theorem fact3 : (Tryz.f12.params.all (Tryz.pinned.checked.prog.readableRec ·)) = true := by kernel_rfl
theorem fact4 : (namedTie Tryz.pinned.checked.prog Rows.graphmlWritesRow.named Rows.graphmlWritesSpec.vars) = true := by kernel_rfl
theorem fact5 : ((Rows.graphmlWritesRow.stops == [])) = true := by kernel_rfl
theorem fact7 : ((Rows.graphmlWritesRow.knobs == [])) = true := by kernel_rfl
theorem fact9 : ((Rows.graphmlWritesRow.inPlace == Tryz.pinned.checked.prog.inPlace 12)) = true := by kernel_rfl
theorem fact10 : ((Rows.graphmlWritesRow.unfollowed == Tryz.pinned.checked.prog.unfollowed 12)) = true := by kernel_rfl
theorem fact11 : ((Rows.graphmlWritesRow.recurses == Tryz.pinned.checked.prog.recurses 12)) = true := by kernel_rfl
theorem fact12 : ((Rows.graphmlWritesRow.named == Tryz.pinned.checked.prog.varsNamed 12)) = true := by kernel_rfl
theorem fact13 : ((Rows.graphmlWritesRow.maps == (Tryz.f12.params.toList ++ Rows.graphmlWritesSpec.plain.varTypes Tryz.pinned.checked.prog).any (Tryz.pinned.checked.prog.mapsRec ·))) = true := by kernel_rfl
theorem fact14 : ((Rows.graphmlWritesRow.ifaces == (Tryz.f12.params.toList ++ Rows.graphmlWritesSpec.plain.varTypes Tryz.pinned.checked.prog).any (Tryz.pinned.checked.prog.ifacesRec ·))) = true := by kernel_rfl
theorem fact15 : ((Rows.graphmlWritesRow.mapsOut == Tryz.pinned.checked.prog.mapsAmong Tryz.f12.resultTypes.toList)) = true := by kernel_rfl
theorem fact16 : ((Rows.graphmlWritesRow.loops == (Tryz.f12.params.toList ++ Rows.graphmlWritesSpec.plain.varTypes Tryz.pinned.checked.prog).any (Tryz.pinned.checked.prog.loopsFrom ·))) = true := by kernel_rfl
theorem fact17 : ((Rows.graphmlWritesRow.wideKeys == (Tryz.f12.params.toList ++ Rows.graphmlWritesSpec.plain.varTypes Tryz.pinned.checked.prog ++ Tryz.f12.resultTypes.toList).any (Tryz.pinned.checked.prog.wideKeysFrom ·))) = true := by kernel_rfl
theorem fact18 : (Rows.graphmlWritesSpec.vars.all (Tryz.pinned.checked.prog.varReadable ·)) = true := by kernel_rfl
theorem fact19 : (Tryz.f12.resultTypes.all (fun t => Tryz.pinned.checked.prog.readableRec t && decide (t < Tryz.pinned.checked.prog.types.size))) = true := by kernel_rfl
theorem fact20 : ((Rows.graphmlWritesRow.ifacesOut == Tryz.f12.resultTypes.toList.any (Tryz.pinned.checked.prog.ifacesRec ·))) = true := by kernel_rfl
theorem fact21 : ((Rows.graphmlWritesRow.loopsOut == Tryz.f12.resultTypes.toList.any (Tryz.pinned.checked.prog.loopsFrom ·))) = true := by kernel_rfl
theorem fact22 : ((Rows.graphmlWritesRow.plainKeys == Tryz.pinned.checked.prog.plainKeys)) = true := by kernel_rfl
theorem fact23 : (Rows.graphmlWritesRow.shortTexts.isNone) = true := by kernel_rfl
theorem fact28 : ((Rows.graphmlWritesRow.kinds == (if Rows.graphmlWritesRow.domain.isEmpty then [] else Tryz.f12.params.toList.map fun t => match Tryz.pinned.checked.prog.underlying t with | some (.int k) => some k | _ => none))) = true := by kernel_rfl
theorem fact29 : ((Rows.graphmlWritesRow.pinned == Rows.graphmlWritesRow.pinnedBy)) = true := by kernel_rfl
theorem fact30 : ((Rows.graphmlWritesRow.veiled == (Tryz.f12.params.toList ++ Rows.graphmlWritesSpec.plain.varTypes Tryz.pinned.checked.prog ++ Tryz.f12.resultTypes.toList).any (Tryz.pinned.checked.prog.veiledRec ·))) = true := by kernel_rfl
theorem fact31 : (Rows.graphmlWritesRow.veiledFits Tryz.pinned.checked.prog Tryz.f12.params.toList (Tryz.f12.params.toList ++ Rows.graphmlWritesSpec.plain.varTypes Tryz.pinned.checked.prog ++ Tryz.f12.resultTypes.toList)) = true := by kernel_rfl
theorem facts : joinedFacts Tryz.pinned.checked.prog 12 Tryz.f12 Rows.graphmlWritesSpec Rows.graphmlWritesRow = true :=
 Go.X.lV fact0 Ey Ez fact3 fact4 fact5 EA fact7 EB fact9 fact10 fact11 fact12 fact13 fact14 fact15 fact16 fact17 fact18 fact19 fact20 fact21 fact22 fact23 Bq tI tJ rfl zh rfl fact28 fact29 fact30 fact31
theorem over : Rows.graphmlWritesRow.holds Tryz.pinned (OpenSpec.ofChange Rows.graphmlWritesSpec) :=
 OpenClaim.holds_of_wide 12 Tryz.f12 rfl rfl rfl rfl rfl rfl rfl ⟨rfl, rfl, rfl, rfl, rfl⟩ rfl rfl rfl rfl rfl (by kernel_rfl) Tryz.func12 facts
  (of_decide_eq_true (by kernel_rfl)) (by unfold Func.isWrapper; first | (rw [if_pos (by decide +kernel)]; kernel_rfl) | (rw [if_neg (by decide +kernel)]; exact ⟨rfl, rfl⟩))
  (fun os started H enc _ => lifted os started H enc)
theorem goes_is : false = Rows.graphmlWritesRow.goesBy Tryz.pinned.checked.prog := by kernel_rfl
theorem wfText_is : Rows.graphmlWritesRow.wfByText (OpenSpec.ofChange Rows.graphmlWritesSpec) = true := by kernel_rfl
theorem card_holds : Claim7.holds Tryz.pinned (.plain (OpenSpec.ofChange Rows.graphmlWritesSpec)) Rows.graphmlWritesCard :=
 Claim7.holds_tied_plain_at .later [] [.data, .data, .widerDeep, .widerDeep, .data, .data, .data, .data, .data, .data, .sentinel, .sentinel, .pinned, .pinned, .pinned] true (true, "d922b2127d093973f6e6fbd7a9555f957fa87eb9f160689ab833719c0eaf783b") true
  over (fun _ h => by cases h) wfText_is (fun _ h => by cases h) graphmlWrites_row_tie rfl ⟨rfl, rfl⟩ za rfl
  (fun f fn hf hfn => by
   obtain rfl : f = 12 := Option.some.inj ((show Tryz.prog.funcNamed "tracery/tracerylaw31.GraphmlWrites" = some 12 by kernel_rfl).symm.trans hf) |>.symm
   obtain rfl : fn = Tryz.f12 := (Option.some.inj (Tryz.func12.symm.trans hfn)).symm
   exact ⟨wH, fun j t ht => by
    rw [Tryz.params12] at ht
    have hm : t ∈ [29] := by simpa using Array.mem_of_getElem? ht
    have hall : ([29].all fun u => !Tryz.prog.wantsStandIn u) = true := by kernel_rfl
    exact (show Tryz.prog.wantsStandIn t = false by simpa using List.all_eq_true.1 hall t hm)⟩)
  goes_is
end Go.Proofs.YtlflalecmhgmjaaGreatDoor.graphmlWrites
namespace Go.Proofs.YtlflalecmhgmjaaGreatDoor
theorem graphmlWrites_said : Rows.GraphmlWritesCardSaid := graphmlWrites.card_holds
end Go.Proofs.YtlflalecmhgmjaaGreatDoor
