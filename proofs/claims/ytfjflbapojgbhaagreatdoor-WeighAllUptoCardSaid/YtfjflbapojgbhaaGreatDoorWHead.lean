/- The facts of the whole program that each row asks: the words of its head, read once. Conditions: none. -/
import Derived.Test.YtfjflbapojgbhaaGreatDoorRows
import Derived.ProofKit
namespace Go.Proofs.YtfjflbapojgbhaaGreatDoor
set_option maxRecDepth 100000

def blank : Char := Char.ofNat 32
theorem ws_blank (r : List Char) : wordsSigns (blank :: r) = [] :: wordsSigns r := rfl
theorem ws_step {c : Char} (hc : c ≠ blank) {r w : List Char} {ws : List (List Char)} (h : wordsSigns r = w :: ws) : wordsSigns (c :: r) = (c :: w) :: ws := by
  rw [wordsSigns]
  · rw [h]
  · exact hc
theorem ws_word : ∀ (w r : List Char), w.all (fun c => c != blank) = true → wordsSigns (w ++ blank :: r) = w :: wordsSigns r
  | [], r, _ => ws_blank r
  | c :: w, r, h => by
    simp only [List.all_cons, Bool.and_eq_true] at h
    exact ws_step (by simpa using h.1) (ws_word w r h.2)
def wordH : List Char := [Char.ofNat 104, Char.ofNat 97, Char.ofNat 114, Char.ofNat 110, Char.ofNat 101, Char.ofNat 115, Char.ofNat 115]
def wordS : List Char := [Char.ofNat 57, Char.ofNat 52, Char.ofNat 55, Char.ofNat 53, Char.ofNat 97, Char.ofNat 49, Char.ofNat 102, Char.ofNat 99, Char.ofNat 56, Char.ofNat 52, Char.ofNat 98, Char.ofNat 48, Char.ofNat 100, Char.ofNat 101, Char.ofNat 56, Char.ofNat 51, Char.ofNat 102, Char.ofNat 101, Char.ofNat 50, Char.ofNat 53, Char.ofNat 49, Char.ofNat 56, Char.ofNat 97, Char.ofNat 98, Char.ofNat 51, Char.ofNat 49, Char.ofNat 100, Char.ofNat 100, Char.ofNat 53, Char.ofNat 51, Char.ofNat 102, Char.ofNat 102, Char.ofNat 51, Char.ofNat 97, Char.ofNat 98, Char.ofNat 101, Char.ofNat 102, Char.ofNat 52, Char.ofNat 97, Char.ofNat 98, Char.ofNat 98, Char.ofNat 100, Char.ofNat 52, Char.ofNat 51, Char.ofNat 54, Char.ofNat 55, Char.ofNat 56, Char.ofNat 102, Char.ofNat 102, Char.ofNat 56, Char.ofNat 51, Char.ofNat 51, Char.ofNat 100, Char.ofNat 50, Char.ofNat 101, Char.ofNat 52, Char.ofNat 50, Char.ofNat 51, Char.ofNat 97, Char.ofNat 50, Char.ofNat 56, Char.ofNat 52, Char.ofNat 99, Char.ofNat 50]
def wordC : List Char := [Char.ofNat 99, Char.ofNat 117, Char.ofNat 116]
def wordR : List Char := [Char.ofNat 97, Char.ofNat 116, Char.ofNat 32, Char.ofNat 116, Char.ofNat 114, Char.ofNat 97, Char.ofNat 99, Char.ofNat 101, Char.ofNat 114, Char.ofNat 121, Char.ofNat 47, Char.ofNat 116, Char.ofNat 114, Char.ofNat 97, Char.ofNat 99, Char.ofNat 101, Char.ofNat 114, Char.ofNat 121, Char.ofNat 108, Char.ofNat 97, Char.ofNat 119, Char.ofNat 49, Char.ofNat 46, Char.ofNat 87, Char.ofNat 101, Char.ofNat 105, Char.ofNat 103, Char.ofNat 104, Char.ofNat 82, Char.ofNat 101, Char.ofNat 97, Char.ofNat 100, Char.ofNat 115, Char.ofNat 32, Char.ofNat 116, Char.ofNat 114, Char.ofNat 97, Char.ofNat 99, Char.ofNat 101, Char.ofNat 114, Char.ofNat 121, Char.ofNat 47, Char.ofNat 116, Char.ofNat 114, Char.ofNat 97, Char.ofNat 99, Char.ofNat 101, Char.ofNat 114, Char.ofNat 121, Char.ofNat 108, Char.ofNat 97, Char.ofNat 119, Char.ofNat 49, Char.ofNat 46, Char.ofNat 87, Char.ofNat 101, Char.ofNat 105, Char.ofNat 103, Char.ofNat 104, Char.ofNat 87, Char.ofNat 104, Char.ofNat 111, Char.ofNat 108, Char.ofNat 101, Char.ofNat 32, Char.ofNat 116, Char.ofNat 114, Char.ofNat 97, Char.ofNat 99, Char.ofNat 101, Char.ofNat 114, Char.ofNat 121, Char.ofNat 47, Char.ofNat 116, Char.ofNat 114, Char.ofNat 97, Char.ofNat 99, Char.ofNat 101, Char.ofNat 114, Char.ofNat 121, Char.ofNat 108, Char.ofNat 97, Char.ofNat 119, Char.ofNat 49, Char.ofNat 46, Char.ofNat 87, Char.ofNat 101, Char.ofNat 105, Char.ofNat 103, Char.ofNat 104, Char.ofNat 79, Char.ofNat 114, Char.ofNat 100, Char.ofNat 101, Char.ofNat 114, Char.ofNat 32, Char.ofNat 116, Char.ofNat 114, Char.ofNat 97, Char.ofNat 99, Char.ofNat 101, Char.ofNat 114, Char.ofNat 121, Char.ofNat 47, Char.ofNat 116, Char.ofNat 114, Char.ofNat 97, Char.ofNat 99, Char.ofNat 101, Char.ofNat 114, Char.ofNat 121, Char.ofNat 108, Char.ofNat 97, Char.ofNat 119, Char.ofNat 49, Char.ofNat 46, Char.ofNat 87, Char.ofNat 101, Char.ofNat 105, Char.ofNat 103, Char.ofNat 104, Char.ofNat 66, Char.ofNat 97, Char.ofNat 99, Char.ofNat 107, Char.ofNat 32, Char.ofNat 116, Char.ofNat 114, Char.ofNat 97, Char.ofNat 99, Char.ofNat 101, Char.ofNat 114, Char.ofNat 121, Char.ofNat 47, Char.ofNat 116, Char.ofNat 114, Char.ofNat 97, Char.ofNat 99, Char.ofNat 101, Char.ofNat 114, Char.ofNat 121, Char.ofNat 108, Char.ofNat 97, Char.ofNat 119, Char.ofNat 49, Char.ofNat 46, Char.ofNat 87, Char.ofNat 101, Char.ofNat 105, Char.ofNat 103, Char.ofNat 104, Char.ofNat 65, Char.ofNat 108, Char.ofNat 108, Char.ofNat 32, Char.ofNat 116, Char.ofNat 114, Char.ofNat 97, Char.ofNat 99, Char.ofNat 101, Char.ofNat 114, Char.ofNat 121, Char.ofNat 47, Char.ofNat 116, Char.ofNat 114, Char.ofNat 97, Char.ofNat 99, Char.ofNat 101, Char.ofNat 114, Char.ofNat 121, Char.ofNat 108, Char.ofNat 97, Char.ofNat 119, Char.ofNat 49, Char.ofNat 46, Char.ofNat 87, Char.ofNat 101, Char.ofNat 105, Char.ofNat 103, Char.ofNat 104, Char.ofNat 83, Char.ofNat 117, Char.ofNat 109, Char.ofNat 115]
theorem head_is : Tryz.pinned.checked.prog.initOrder = String.ofList (wordH ++ blank :: (wordS ++ blank :: (wordC ++ blank :: wordR))) := by kernel_rfl
theorem words_are : ∃ tl, wordsSigns Tryz.pinned.checked.prog.initOrder.toList = wordH :: wordS :: wordC :: tl := by
  refine ⟨wordsSigns wordR, ?_⟩
  rw [head_is, String.toList_ofList, ws_word _ _ (by kernel_rfl), ws_word _ _ (by kernel_rfl), ws_word _ _ (by kernel_rfl)]
theorem behind (tl : List (List Char)) : behindMainWord (wordH :: wordS :: wordC :: tl) = wordC :: tl := by kernel_rfl
theorem strip (tl : List (List Char)) : stripLifts liftWords (wordC :: tl) = ([], wordC :: tl) := by kernel_rfl
theorem door : Tryz.pinned.checked.prog.doorFits [] = true := by kernel_rfl
theorem later : Tryz.pinned.checked.prog.laysLater = false := by kernel_rfl
theorem noRefl : Tryz.pinned.checked.prog.bearsReflect = false := by kernel_rfl
theorem isC : (wordC == "cut".toList) = true := by kernel_rfl
theorem notG : (wordC == "gc".toList) = false := by kernel_rfl
theorem notS : (wordC == "spec".toList) = false := by kernel_rfl
theorem notK : (wordC == "carried".toList) = false := by kernel_rfl
theorem headC (tl : List (List Char)) : ((wordC :: tl).head? == some "cut".toList) = true := by
  rw [List.head?_cons, Option.some_beq_some]; exact isC
theorem mayEnter_of {P : Program} {tl : List (List Char)} (h : wordsSigns P.initOrder.toList = wordH :: wordS :: wordC :: tl) (door : P.doorFits [] = true) (later : P.laysLater = false) (hrefl : P.bearsReflect = false) : P.mayEnter = true := by
  unfold Program.mayEnter
  rw [h, behind]
  simp only [strip, door, later, hrefl, notG, notS, notK, headC, Bool.false_or, Bool.or_false, Bool.false_and, Bool.not_false, Bool.or_true, Bool.and_true, Bool.and_self]
  rfl
theorem lifts_of {P : Program} {tl : List (List Char)} (h : wordsSigns P.initOrder.toList = wordH :: wordS :: wordC :: tl) : P.liftsFinal = false := by
  unfold Program.liftsFinal Program.headLifts
  rw [h, behind]
  have hk : ((wordC :: tl).head? == some "carried".toList) = false := by rw [List.head?_cons, Option.some_beq_some]; exact notK
  simp only [strip, hk, headC, Bool.false_and, Bool.false_or, if_true, List.contains_nil]
theorem make_of {P : Program} {tl : List (List Char)} (h : wordsSigns P.initOrder.toList = wordH :: wordS :: wordC :: tl) : P.make = some .cut := by
  unfold Program.make Program.headLifts
  rw [h, behind]
  simp only [isC, notG, notS, Bool.or_false, Bool.true_or, if_true, Bool.false_eq_true, if_false]
theorem may_enter : Tryz.pinned.checked.prog.mayEnter = true := words_are.elim fun _ h => mayEnter_of h door later noRefl
theorem lifts_not : Tryz.pinned.checked.prog.liftsFinal = false := words_are.elim fun _ h => lifts_of h
theorem make_is : Tryz.pinned.checked.prog.make = some .cut := words_are.elim fun _ h => make_of h
end Go.Proofs.YtfjflbapojgbhaaGreatDoor
