/- GraphmlNotes returns true whatever the input, and what stood in memory is as it was; the tables are as the program's text lays them. Conditions: none. -/
import Derived.Test.YtemphinmoihdaaaGreatDoorCards
import Derived.Test.YtemphinmoihdaaaGreatDoorTie
import Derived.Test.YtemphinmoihdaaaGreatDoorWCard
import Derived.Test.YtemphinmoihdaaaGreatDoorWDoc
import Derived.WalkKit
import Derived.ProofKit
import Derived.OpenShut
import Derived.ShutString
import Derived.SevenTiedAt
set_option linter.unusedVariables false
set_option linter.unusedSimpArgs false
namespace Go.Proofs.YtemphinmoihdaaaGreatDoor.graphmlNotes
open Go.ChangeShapes Go.WideShapes Go.ChangeAt Go.RowKit
theorem own : ownKnob Tryz.prog.godebug = none := by kernel_rfl
theorem laidOut : laidOutB Tryz.prog = true := by kernel_rfl
set_option maxRecDepth 100000 in
theorem lifted (os : Os) (started : os.Started) (H : Type) (enc : TypeId × Value -> H) :
  ReturnsInHanded {} Tryz.checked os 3 .any (fun w args => (Rows.graphmlNotesSpec.pre enc Tryz.prog Tryz.f3 [] false w args /\ laidMetH Tryz.prog Rows.graphmlNotesRow.laid w) /\ sizedMet enc Tryz.prog Tryz.f3 (OpenSpec.ofChange Rows.graphmlNotesSpec) false w args)
   (Rows.graphmlNotesSpec.post enc Tryz.prog Tryz.f3 false true false false) := by
 refine Go.X.kB (C := Tryz.checked) (X := fun w _ => laidMetH Tryz.prog Rows.graphmlNotesRow.laid w) (fun _ _ _ hh h => h.of_heap hh) own started (by kernel_rfl) Tryz.func3
  (ChangeSpec.witness_shaped (enc := enc) (C := Tryz.checked) (os := os) (X := fun w _ => laidMetH Tryz.prog Rows.graphmlNotesRow.laid w) false (World.laidAll Tryz.prog os Rows.graphmlNotesRow.laid) #[.agg #[.int .i64 0, .slice none 0 0, .bool false, .slice none 0 0, .slice none 0 0, .slice none 0 0], .slice none 0 0] 8 (World.laidAll_os _ _ _)
   (World.shaped_of_ZipB (by kernel_rfl) (by kernel_rfl)) (by kernel_rfl) (by kernel_rfl) (by kernel_rfl) (N.met os _)) ?_
 intro W base args ds gs before hval0 hW hL hS
 have hval : ∀ (j : Nat) t v, Tryz.f3.params[j]? = some t -> args[j]? = some v -> Value.okWide Tryz.prog W .any base t v := hval0
 have hW' := hW
 obtain ⟨p, q, hA0, hV, rfl, hfz, hnd⟩ := hW
 have hA : DataW.TrodAll enc Tryz.prog W 0 (fun _ => true) true Tryz.f3.params.toList args.toList ds p := hA0
 rw [Tryz.params3] at hA hval
 obtain ⟨v0, vs0, d0, ds0, p0, q0, hargs, rfl, rfl, h0, r0⟩ := trodAll_cons hA
 obtain ⟨v1, vs1, d1, ds1, p1, q1, rfl, rfl, rfl, h1, r1⟩ := trodAll_cons r0
 obtain ⟨rfl, rfl, rfl⟩ := trodAll_nil r1
 obtain rfl : args = #[v0, v1] := by cases args; simp_all
 obtain ⟨rfl, rfl⟩ := trodVars_none hV
 have lt0 : ∀ x ∈ p0, x.block < W.heap.size := by obtain ⟨m, hm⟩ := h0; exact DataW.trod_lt m _ _ _ hm
 have lt1 : ∀ x ∈ p1, x.block < W.heap.size := by obtain ⟨m, hm⟩ := h1; exact DataW.trod_lt m _ _ _ hm
 obtain ⟨m0, u0, D0⟩ := N.Eo (enc := enc) (hval 0 29 v0 rfl rfl) h0
 obtain rfl := D0.v
 obtain ⟨a1, l1, c1, rfl⟩ := okWide_slice Tryz.underlying25 (hval 1 25 v1 rfl rfl)
 obtain ⟨z1, g1, y1⟩ := Go.X.rE (enc := enc) Tryz.underlying25 Tryz.underlying9 (by kernel_rfl) (fun x e => Go.X.B4 Tryz.underlying25 (e ▸ hval 1 25 _ rfl rfl)) h1
 obtain ⟨gl, hG⟩ := N.Qt hL hS
 clear hA0 hval0
 refine (Go.X.ym (v := Value.bool true) ((N.FW (Go.X.Hp.vw (c := Go.X.Ck.glob gl) hG rfl (Go.X.Hp.vw D0.eE rfl (Go.X.Hp.vw D0.eL rfl (Go.X.Hp.vw D0.eS rfl (Go.X.Hp.vw D0.eW rfl (Go.X.Hp.vw g1 rfl (Go.X.Hp.nil _) rfl) rfl) rfl) rfl) rfl) rfl) D0.ls D0.ss D0.ws).mono fun v' h' r => ⟨r.2, r.1⟩)).mono fun e W' ⟨he, bel⟩ => ?_
 subst he
 exact ⟨_, rfl, _, _, _, [], _, [], hW', trodAll_mk1 (shut_bool Tryz.underlying4 _), (trodAll_cons_mk (Below.trod laidOut (by kernel_rfl) (of_decide_eq_true (by kernel_rfl)) h0 bel lt0) (trodAll_cons_mk (Below.trod laidOut (by kernel_rfl) (of_decide_eq_true (by kernel_rfl)) h1 bel lt1) trodAll_mk0)), rfl, bel.frame _, fun h => by cases h⟩
set_option maxRecDepth 100000
theorem fact0 : (Rows.graphmlNotesRow.wf (OpenSpec.ofChange Rows.graphmlNotesSpec)) = true := by kernel_rfl
theorem fact3 : (Tryz.f3.params.all (Tryz.pinned.checked.prog.readableRec ·)) = true := by kernel_rfl
theorem fact4 : (namedTie Tryz.pinned.checked.prog Rows.graphmlNotesRow.named Rows.graphmlNotesSpec.vars) = true := by kernel_rfl
theorem fact5 : ((Rows.graphmlNotesRow.stops == [])) = true := by kernel_rfl
theorem fact7 : ((Rows.graphmlNotesRow.knobs == [])) = true := by kernel_rfl
theorem fact9 : ((Rows.graphmlNotesRow.inPlace == Tryz.pinned.checked.prog.inPlace 3)) = true := by kernel_rfl
theorem fact10 : ((Rows.graphmlNotesRow.unfollowed == Tryz.pinned.checked.prog.unfollowed 3)) = true := by kernel_rfl
theorem fact11 : ((Rows.graphmlNotesRow.recurses == Tryz.pinned.checked.prog.recurses 3)) = true := by kernel_rfl
theorem fact12 : ((Rows.graphmlNotesRow.named == Tryz.pinned.checked.prog.varsNamed 3)) = true := by kernel_rfl
theorem fact13 : ((Rows.graphmlNotesRow.maps == (Tryz.f3.params.toList ++ Rows.graphmlNotesSpec.plain.varTypes Tryz.pinned.checked.prog).any (Tryz.pinned.checked.prog.mapsRec ·))) = true := by kernel_rfl
theorem fact14 : ((Rows.graphmlNotesRow.ifaces == (Tryz.f3.params.toList ++ Rows.graphmlNotesSpec.plain.varTypes Tryz.pinned.checked.prog).any (Tryz.pinned.checked.prog.ifacesRec ·))) = true := by kernel_rfl
theorem fact15 : ((Rows.graphmlNotesRow.mapsOut == Tryz.pinned.checked.prog.mapsAmong Tryz.f3.resultTypes.toList)) = true := by kernel_rfl
theorem fact16 : ((Rows.graphmlNotesRow.loops == (Tryz.f3.params.toList ++ Rows.graphmlNotesSpec.plain.varTypes Tryz.pinned.checked.prog).any (Tryz.pinned.checked.prog.loopsFrom ·))) = true := by kernel_rfl
theorem fact17 : ((Rows.graphmlNotesRow.wideKeys == (Tryz.f3.params.toList ++ Rows.graphmlNotesSpec.plain.varTypes Tryz.pinned.checked.prog ++ Tryz.f3.resultTypes.toList).any (Tryz.pinned.checked.prog.wideKeysFrom ·))) = true := by kernel_rfl
theorem fact18 : (Rows.graphmlNotesSpec.vars.all (Tryz.pinned.checked.prog.varReadable ·)) = true := by kernel_rfl
theorem fact19 : (Tryz.f3.resultTypes.all (fun t => Tryz.pinned.checked.prog.readableRec t && decide (t < Tryz.pinned.checked.prog.types.size))) = true := by kernel_rfl
theorem fact20 : ((Rows.graphmlNotesRow.ifacesOut == Tryz.f3.resultTypes.toList.any (Tryz.pinned.checked.prog.ifacesRec ·))) = true := by kernel_rfl
theorem fact21 : ((Rows.graphmlNotesRow.loopsOut == Tryz.f3.resultTypes.toList.any (Tryz.pinned.checked.prog.loopsFrom ·))) = true := by kernel_rfl
theorem fact22 : ((Rows.graphmlNotesRow.plainKeys == Tryz.pinned.checked.prog.plainKeys)) = true := by kernel_rfl
theorem fact23 : (Rows.graphmlNotesRow.shortTexts.isNone) = true := by kernel_rfl
theorem fact28 : ((Rows.graphmlNotesRow.kinds == (if Rows.graphmlNotesRow.domain.isEmpty then [] else Tryz.f3.params.toList.map fun t => match Tryz.pinned.checked.prog.underlying t with | some (.int k) => some k | _ => none))) = true := by kernel_rfl
theorem fact29 : ((Rows.graphmlNotesRow.pinned == Rows.graphmlNotesRow.pinnedBy)) = true := by kernel_rfl
theorem fact30 : ((Rows.graphmlNotesRow.veiled == (Tryz.f3.params.toList ++ Rows.graphmlNotesSpec.plain.varTypes Tryz.pinned.checked.prog ++ Tryz.f3.resultTypes.toList).any (Tryz.pinned.checked.prog.veiledRec ·))) = true := by kernel_rfl
theorem fact31 : (Rows.graphmlNotesRow.veiledFits Tryz.pinned.checked.prog Tryz.f3.params.toList (Tryz.f3.params.toList ++ Rows.graphmlNotesSpec.plain.varTypes Tryz.pinned.checked.prog ++ Tryz.f3.resultTypes.toList)) = true := by kernel_rfl
theorem facts : joinedFacts Tryz.pinned.checked.prog 3 Tryz.f3 Rows.graphmlNotesSpec Rows.graphmlNotesRow = true :=
 Go.X.qT fact0 OX OY fact3 fact4 fact5 OZ fact7 O0 fact9 fact10 fact11 fact12 fact13 fact14 fact15 fact16 fact17 fact18 fact19 fact20 fact21 fact22 fact23 K9 BA BB rfl HX rfl fact28 fact29 fact30 fact31
theorem over : Rows.graphmlNotesRow.holds Tryz.pinned (OpenSpec.ofChange Rows.graphmlNotesSpec) :=
 OpenClaim.holds_of_wide 3 Tryz.f3 rfl rfl rfl rfl rfl rfl rfl ⟨rfl, rfl, rfl, rfl, rfl⟩ rfl rfl rfl rfl rfl (by kernel_rfl) Tryz.func3 facts
  (of_decide_eq_true (by kernel_rfl)) (by unfold Func.isWrapper; first | (rw [if_pos (by decide +kernel)]; kernel_rfl) | (rw [if_neg (by decide +kernel)]; exact ⟨rfl, rfl⟩))
  (fun os started H enc _ => lifted os started H enc)
theorem goes_is : false = Rows.graphmlNotesRow.goesBy Tryz.pinned.checked.prog := by kernel_rfl
theorem wfText_is : Rows.graphmlNotesRow.wfByText (OpenSpec.ofChange Rows.graphmlNotesSpec) = true := by kernel_rfl
theorem card_holds : Claim7.holds Tryz.pinned (.plain (OpenSpec.ofChange Rows.graphmlNotesSpec)) Rows.graphmlNotesCard :=
 Claim7.holds_tied_plain_at .later [] [.data, .data, .widerDeep, .widerDeep, .data, .data, .data, .data, .data, .data, .sentinel, .sentinel, .pinned, .pinned, .pinned] true (true, "753aadc652e37551047e3cf4acc47d3a78a53fda585d543ec6a038da4590a6d3") true
  over (fun _ h => by cases h) wfText_is (fun _ h => by cases h) graphmlNotes_row_tie rfl ⟨rfl, rfl⟩ HP rfl
  (fun f fn hf hfn => by
   obtain rfl : f = 3 := Option.some.inj ((show Tryz.prog.funcNamed "tracery/tracerylaw31.GraphmlNotes" = some 3 by kernel_rfl).symm.trans hf) |>.symm
   obtain rfl : fn = Tryz.f3 := (Option.some.inj (Tryz.func3.symm.trans hfn)).symm
   exact ⟨El, fun j t ht => by
    rw [Tryz.params3] at ht
    have hm : t ∈ [29, 25] := by simpa using Array.mem_of_getElem? ht
    have hall : ([29, 25].all fun u => !Tryz.prog.wantsStandIn u) = true := by kernel_rfl
    exact (show Tryz.prog.wantsStandIn t = false by simpa using List.all_eq_true.1 hall t hm)⟩)
  goes_is
end Go.Proofs.YtemphinmoihdaaaGreatDoor.graphmlNotes
namespace Go.Proofs.YtemphinmoihdaaaGreatDoor
theorem graphmlNotes_said : Rows.GraphmlNotesCardSaid := graphmlNotes.card_holds
end Go.Proofs.YtemphinmoihdaaaGreatDoor
