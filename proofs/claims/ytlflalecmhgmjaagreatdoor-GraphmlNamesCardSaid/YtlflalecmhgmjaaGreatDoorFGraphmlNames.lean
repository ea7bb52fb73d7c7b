/- GraphmlNames returns true whatever the input, and what stood in memory is as it was; the tables are as the program's text lays them. Conditions: none. -/
import Derived.Test.YtlflalecmhgmjaaGreatDoorCards
import Derived.Test.YtlflalecmhgmjaaGreatDoorTie
import Derived.Test.YtlflalecmhgmjaaGreatDoorWCard
import Derived.Test.YtlflalecmhgmjaaGreatDoorWDocL
import Derived.WalkKit
import Derived.ProofKit
import Derived.OpenShut
import Derived.ShutString
import Derived.SevenTiedAt
import Derived.ChangeMaps5
set_option linter.unusedVariables false
set_option linter.unusedSimpArgs false
namespace Go.Proofs.YtlflalecmhgmjaaGreatDoor.graphmlNames
open Go.ChangeShapes Go.WideShapes Go.ChangeAt Go.RowKit
theorem own : ownKnob Tryz.prog.godebug = none := by kernel_rfl
theorem laidOut : laidOutB Tryz.prog = true := by kernel_rfl
set_option maxRecDepth 100000 in
theorem lifted (os : Os) (started : os.Started) (H : Type) (enc : TypeId × Value -> H) :
  ReturnsInHanded {} Tryz.checked os 15 .any (fun w args => (Rows.graphmlNamesSpec.pre enc Tryz.prog Tryz.f15 [] false w args /\ laidMetH Tryz.prog Rows.graphmlNamesRow.laid w) /\ sizedMet enc Tryz.prog Tryz.f15 (OpenSpec.ofChange Rows.graphmlNamesSpec) false w args)
   (Rows.graphmlNamesSpec.post enc Tryz.prog Tryz.f15 false true false false) := by
 refine Go.X.gV (C := Tryz.checked) (X := fun w _ => laidMetH Tryz.prog Rows.graphmlNamesRow.laid w) (fun _ _ _ hh h => h.of_heap hh) own started (by kernel_rfl) Tryz.func15
  (ChangeSpec.witness_shaped (enc := enc) (C := Tryz.checked) (os := os) (X := fun w _ => laidMetH Tryz.prog Rows.graphmlNamesRow.laid w) false (World.laidAll Tryz.prog os Rows.gmlLabelsRow.laid) #[.agg #[.int .i64 0, .slice none 0 0, .bool false, .slice none 0 0, .slice none 0 0, .slice none 0 0], .string ByteArray.empty] 8 (World.laidAll_os _ _ _)
   (World.shaped_of_ZipB (by kernel_rfl) (by kernel_rfl)) (by kernel_rfl) (by kernel_rfl) (by kernel_rfl) (N.met os _)) ?_
 intro W base args ds gs before hval0 hW hL hS
 have hval : ∀ (j : Nat) t v, Tryz.f15.params[j]? = some t -> args[j]? = some v -> Value.okWide Tryz.prog W .any base t v := hval0
 have hW' := hW
 obtain ⟨p, q, hA0, hV, rfl, hfz, hnd⟩ := hW
 have hA : DataW.TrodAll enc Tryz.prog W 0 (fun _ => true) true Tryz.f15.params.toList args.toList ds p := hA0
 rw [Tryz.params15] at hA hval
 obtain ⟨v0, vs0, d0, ds0, p0, q0, hargs, rfl, rfl, h0, r0⟩ := trodAll_cons hA
 obtain ⟨v1, vs1, d1, ds1, p1, q1, rfl, rfl, rfl, h1, r1⟩ := trodAll_cons r0
 obtain ⟨rfl, rfl, rfl⟩ := trodAll_nil r1
 obtain rfl : args = #[v0, v1] := by cases args; simp_all
 obtain ⟨rfl, rfl⟩ := trodVars_none hV
 have lt0 : ∀ x ∈ p0, x.block < W.heap.size := by obtain ⟨m, hm⟩ := h0; exact DataW.trod_lt m _ _ _ hm
 have lt1 : ∀ x ∈ p1, x.block < W.heap.size := by obtain ⟨m, hm⟩ := h1; exact DataW.trod_lt m _ _ _ hm
 obtain ⟨m0, u0, D0⟩ := N.vn (enc := enc) (hval 0 29 v0 rfl rfl) h0
 obtain rfl := D0.v
 obtain ⟨s1, rfl, _, _, y1⟩ := Go.ChangeMaps.open_string Tryz.underlying9 (hval 1 9 v1 rfl rfl) h1
 obtain ⟨gl, hG⟩ := N.BM hL hS
 clear hA0 hval0
 refine (Go.X.qn (v := Value.bool true) ((N.lI (Go.X.Hp.vw (c := Go.X.Ck.glob gl) hG rfl (Go.X.Hp.vw D0.eE rfl (Go.X.Hp.vw D0.eL rfl (Go.X.Hp.vw D0.eS rfl (Go.X.Hp.vw D0.eW rfl (Go.X.Hp.nil _) rfl) rfl) rfl) rfl) rfl) (N.xD (hval 0 29 _ rfl rfl) D0) y1).mono fun v' h' r => ⟨r.2, r.1⟩)).mono fun e W' ⟨he, bel⟩ => ?_
 subst he
 exact ⟨_, rfl, _, _, _, [], _, [], hW', trodAll_mk1 (shut_bool Tryz.underlying4 _), (trodAll_cons_mk (Below.trod laidOut (by kernel_rfl) (of_decide_eq_true (by kernel_rfl)) h0 bel lt0) (trodAll_cons_mk (Below.trod laidOut (by kernel_rfl) (of_decide_eq_true (by kernel_rfl)) h1 bel lt1) trodAll_mk0)), rfl, bel.frame _, fun h => by cases h⟩
set_option maxRecDepth 100000
theorem fact0 : (Rows.graphmlNamesRow.wf (OpenSpec.ofChange Rows.graphmlNamesSpec)) = true := by kernel_rfl
theorem fact3 : (Tryz.f15.params.all (Tryz.pinned.checked.prog.readableRec ·)) = true := by kernel_rfl
theorem fact4 : (namedTie Tryz.pinned.checked.prog Rows.graphmlNamesRow.named Rows.graphmlNamesSpec.vars) = true := by kernel_rfl
theorem fact5 : ((Rows.graphmlNamesRow.stops == [])) = true := by kernel_rfl
theorem fact7 : ((Rows.graphmlNamesRow.knobs == [])) = true := by kernel_rfl
theorem fact9 : ((Rows.graphmlNamesRow.inPlace == Tryz.pinned.checked.prog.inPlace 15)) = true := by kernel_rfl
theorem fact10 : ((Rows.graphmlNamesRow.unfollowed == Tryz.pinned.checked.prog.unfollowed 15)) = true := by kernel_rfl
theorem fact11 : ((Rows.graphmlNamesRow.recurses == Tryz.pinned.checked.prog.recurses 15)) = true := by kernel_rfl
theorem fact12 : ((Rows.graphmlNamesRow.named == Tryz.pinned.checked.prog.varsNamed 15)) = true := by kernel_rfl
theorem fact13 : ((Rows.graphmlNamesRow.maps == (Tryz.f15.params.toList ++ Rows.graphmlNamesSpec.plain.varTypes Tryz.pinned.checked.prog).any (Tryz.pinned.checked.prog.mapsRec ·))) = true := by kernel_rfl
theorem fact14 : ((Rows.graphmlNamesRow.ifaces == (Tryz.f15.params.toList ++ Rows.graphmlNamesSpec.plain.varTypes Tryz.pinned.checked.prog).any (Tryz.pinned.checked.prog.ifacesRec ·))) = true := by kernel_rfl
theorem fact15 : ((Rows.graphmlNamesRow.mapsOut == Tryz.pinned.checked.prog.mapsAmong Tryz.f15.resultTypes.toList)) = true := by kernel_rfl
theorem fact16 : ((Rows.graphmlNamesRow.loops == (Tryz.f15.params.toList ++ Rows.graphmlNamesSpec.plain.varTypes Tryz.pinned.checked.prog).any (Tryz.pinned.checked.prog.loopsFrom ·))) = true := by kernel_rfl
theorem fact17 : ((Rows.graphmlNamesRow.wideKeys == (Tryz.f15.params.toList ++ Rows.graphmlNamesSpec.plain.varTypes Tryz.pinned.checked.prog ++ Tryz.f15.resultTypes.toList).any (Tryz.pinned.checked.prog.wideKeysFrom ·))) = true := by kernel_rfl
theorem fact18 : (Rows.graphmlNamesSpec.vars.all (Tryz.pinned.checked.prog.varReadable ·)) = true := by kernel_rfl
theorem fact19 : (Tryz.f15.resultTypes.all (fun t => Tryz.pinned.checked.prog.readableRec t && decide (t < Tryz.pinned.checked.prog.types.size))) = true := by kernel_rfl
theorem fact20 : ((Rows.graphmlNamesRow.ifacesOut == Tryz.f15.resultTypes.toList.any (Tryz.pinned.checked.prog.ifacesRec ·))) = true := by kernel_rfl
theorem fact21 : ((Rows.graphmlNamesRow.loopsOut == Tryz.f15.resultTypes.toList.any (Tryz.pinned.checked.prog.loopsFrom ·))) = true := by kernel_rfl
theorem fact22 : ((Rows.graphmlNamesRow.plainKeys == Tryz.pinned.checked.prog.plainKeys)) = true := by kernel_rfl
theorem fact23 : (Rows.graphmlNamesRow.shortTexts.isNone) = true := by kernel_rfl
theorem fact28 : ((Rows.graphmlNamesRow.kinds == (if Rows.graphmlNamesRow.domain.isEmpty then [] else Tryz.f15.params.toList.map fun t => match Tryz.pinned.checked.prog.underlying t with | some (.int k) => some k | _ => none))) = true := by kernel_rfl
theorem fact29 : ((Rows.graphmlNamesRow.pinned == Rows.graphmlNamesRow.pinnedBy)) = true := by kernel_rfl
theorem fact30 : ((Rows.graphmlNamesRow.veiled == (Tryz.f15.params.toList ++ Rows.graphmlNamesSpec.plain.varTypes Tryz.pinned.checked.prog ++ Tryz.f15.resultTypes.toList).any (Tryz.pinned.checked.prog.veiledRec ·))) = true := by kernel_rfl
theorem fact31 : (Rows.graphmlNamesRow.veiledFits Tryz.pinned.checked.prog Tryz.f15.params.toList (Tryz.f15.params.toList ++ Rows.graphmlNamesSpec.plain.varTypes Tryz.pinned.checked.prog ++ Tryz.f15.resultTypes.toList)) = true := by kernel_rfl
theorem facts : joinedFacts Tryz.pinned.checked.prog 15 Tryz.f15 Rows.graphmlNamesSpec Rows.graphmlNamesRow = true :=
 Go.X.lP fact0 Bb Bc fact3 fact4 fact5 Bd fact7 Bf fact9 fact10 fact11 fact12 fact13 fact14 fact15 fact16 fact17 fact18 fact19 fact20 fact21 fact22 fact23 zn sX sY rfl xJ rfl fact28 fact29 fact30 fact31
theorem over : Rows.graphmlNamesRow.holds Tryz.pinned (OpenSpec.ofChange Rows.graphmlNamesSpec) :=
 OpenClaim.holds_of_wide 15 Tryz.f15 rfl rfl rfl rfl rfl rfl rfl ⟨rfl, rfl, rfl, rfl, rfl⟩ rfl rfl rfl rfl rfl (by kernel_rfl) Tryz.func15 facts
  (of_decide_eq_true (by kernel_rfl)) (by unfold Func.isWrapper; first | (rw [if_pos (by decide +kernel)]; kernel_rfl) | (rw [if_neg (by decide +kernel)]; exact ⟨rfl, rfl⟩))
  (fun os started H enc _ => lifted os started H enc)
theorem goes_is : false = Rows.graphmlNamesRow.goesBy Tryz.pinned.checked.prog := by kernel_rfl
theorem wfText_is : Rows.graphmlNamesRow.wfByText (OpenSpec.ofChange Rows.graphmlNamesSpec) = true := by kernel_rfl
theorem card_holds : Claim7.holds Tryz.pinned (.plain (OpenSpec.ofChange Rows.graphmlNamesSpec)) Rows.graphmlNamesCard :=
 Claim7.holds_tied_plain_at .later [] [.data, .data, .widerDeep, .widerDeep, .data, .data, .data, .data, .data, .data, .sentinel, .sentinel, .pinned, .pinned, .pinned] true (true, "d922b2127d093973f6e6fbd7a9555f957fa87eb9f160689ab833719c0eaf783b") true
  over (fun _ h => by cases h) wfText_is (fun _ h => by cases h) graphmlNames_row_tie rfl ⟨rfl, rfl⟩ xC rfl
  (fun f fn hf hfn => by
   obtain rfl : f = 15 := Option.some.inj ((show Tryz.prog.funcNamed "tracery/tracerylaw31.GraphmlNames" = some 15 by kernel_rfl).symm.trans hf) |>.symm
   obtain rfl : fn = Tryz.f15 := (Option.some.inj (Tryz.func15.symm.trans hfn)).symm
   exact ⟨vl, fun j t ht => by
    rw [Tryz.params15] at ht
    have hm : t ∈ [29, 9] := by simpa using Array.mem_of_getElem? ht
    have hall : ([29, 9].all fun u => !Tryz.prog.wantsStandIn u) = true := by kernel_rfl
    exact (show Tryz.prog.wantsStandIn t = false by simpa using List.all_eq_true.1 hall t hm)⟩)
  goes_is
end Go.Proofs.YtlflalecmhgmjaaGreatDoor.graphmlNames
namespace Go.Proofs.YtlflalecmhgmjaaGreatDoor
theorem graphmlNames_said : Rows.GraphmlNamesCardSaid := graphmlNames.card_holds
end Go.Proofs.YtlflalecmhgmjaaGreatDoor
