/- Path of three nodes. Conditions: none. -/
import Derived.Test.YtmcloipjlihhlaaNMoved
import Derived.Test.YtmcloipjlihhlaaTMaker
import Derived.Test.YtmcloipjlihhlaaSMaker
import Derived.Test.YtmcloipjlihhlaaTTutteL
namespace Go.Proofs.Ytmcloipjlihhlaa.N
open Go.X Go.Proofs.Ytmcloipjlihhlaa
set_option maxRecDepth 100000

/-- Made by a closure that looks at one block. -/
theorem made1 {ev n : Int} {f : FuncId} {h0 h : Heap} {nb : Nat} {vs : List Value} {R : Int → List (Int × Int) → Int → Prop} (Y : Sy h0 [] h [Ck.vob nb 0 vs]) (bad : ev ≠ 0 → R 0 [] ev)
    (ok : ev = 0 → ∀ (h1 : Heap) (b : Nat), Hp h1 [Ck.ob b 229 [.int .i64 n, .slice none 0 0], Ck.sl eP 35 none 0 0 [], Ck.vob nb 0 vs] → CallsH Try.prog f #[.pointer (some ⟨b, 0, none⟩), .pointer (some ⟨nb, 0, none⟩)] h1 fun v h' =>
      ∃ (A : Option Addr) (L C : Nat) (es : List (Int × Int)) (k : Int), Sy h1 (owns [Ck.ob b 229 [.int .i64 n, .slice none 0 0], Ck.sl eP 35 none 0 0 []]) h' [Ck.ob b 229 [.int .i64 k, .slice A L C], Ck.sl eP 35 A L C es] ∧ v = .tuple #[] ∧ R k es 0) :
    S112 ev n f [.pointer (some ⟨nb, 0, none⟩)] h fun v h' => ∃ (k : Int) (A : Option Addr) (L C : Nat) (es : List (Int × Int)) (rb : Int), Sy h0 [] h' [Ck.sl eP 35 A L C es] ∧ v = .tuple #[.agg #[.int .i64 k, .slice A L C], .int .i64 rb] ∧ R k es rb := by
  unfold S112
  intro hv
  have Y : Sy _ _ hv [_, _] := Y.junk _
  clear_value hv
  refine cnd_ne (fun he => ?_) fun he => ?_
  · have Y : Sy _ _ _ [_, _, _] := ((Y.stJ 1 rfl 0 (.int .i64 0)).stJ 1 rfl (0 + 1) (.slice none 0 0)).nilS eP 35
    exact ⟨_, _, _, _, _, _, Y.pick [2] rfl, rfl, bad he⟩
  · intro hv3
    have Y : Sy _ _ hv3 [_, _, _] := Y.newO (ty := 229) [.int .i64 n, .slice none 0 0]
    clear_value hv3
    have Y : Sy _ _ hv3 [_, _, _, _] := Y.nilS eP 35
    refine callX_sy (ok he hv3 hv.size (Y.pick [2, 3, 0] rfl).hp) (fun _ _ ⟨_, _, _, _, _, p, _⟩ => p.fr) (allc (fun hm => ?_) alln) ?_
    · exact Y.ne 1 2 (by decide) rfl rfl (x := h.size) (y := hv.size) (by simp [Ck.junk]) (by simp [Ck.ob]) (by simpa [owns, Ck.ob, Ck.sl, blkOf] using hm)
    · rintro v hv4 ⟨A, L, C, es, k, PP, rfl, T⟩
      have Y : Sy _ _ hv4 [_, _, _, _] := Y.call2 [2, 3, 0, 1] rfl (A := [_, _]) rfl rfl PP ⟨rfl, ⟨rfl, trivial⟩⟩
      refine ⟨rfl, k, Y.cellO 0 rfl 0 rfl, A, L, C, Y.cellO 0 rfl 1 rfl, ?_⟩
      have Y : Sy _ _ _ [_, _, _, _] := (Y.stJ 3 rfl 0 (.int .i64 k)).stJ 3 rfl (0 + 1) (.slice A L C)
      exact ⟨_, _, _, _, _, _, Y.pick [1] rfl, rfl, T⟩

def sizedM (least : Int) (l : List Int) (n m : Int) : Int :=
  if l.any (fun x => decide (x < least)) then 1 else if l.any (fun x => decide (x > 3072)) then 3 else if n > 1024 then 3 else if m > 3072 then 3 else 0
theorem okSized {least n m : Int} {l : List Int} {R : Int → Prop} (hl : l.length ≤ 1000000) (h : R (sizedM least l n m)) : Ok113 least l n m R := by
  apply ok113
  unfold T113
  refine ⟨fun i => ∃ k : Nat, i = k ∧ k ≤ l.length ∧ ∀ x ∈ l.take k, ¬ x < least, fun i => ((l.length : Int) - i).toNat, ⟨0, rfl, by omega, by simp⟩, ?_⟩
  rintro _ ⟨k, rfl, hk, ha⟩
  refine cnd_dec (fun hlt => ⟨by omega, hlt, fun x hx => ?_⟩) fun hlt => ?_
  · rw [Int.toNat_natCast] at hx
    refine cnd_dec (fun q => ?_) fun q => ?_
    · have : l.any (fun x => decide (x < least)) = true := List.any_eq_true.2 ⟨x, List.mem_of_getElem? hx, by simpa using q⟩
      simpa [sizedM, this] using h
    · rw [wr (by omega) (by omega)]
      refine ⟨⟨k + 1, by simp, by omega, ?_⟩, by dsimp only; omega⟩
      rw [List.take_add_one, hx]
      intro y hy
      rcases List.mem_append.1 hy with hy | hy
      · exact ha y hy
      · simp at hy; subst hy; exact q
  · have hke : k = l.length := by omega
    subst hke
    rw [List.take_length] at ha
    have h1 : l.any (fun x => decide (x < least)) = false := by
      rw [List.any_eq_false]; intro x hx; simpa using ha x hx
    refine ⟨fun i => ∃ k : Nat, i = k ∧ k ≤ l.length ∧ ∀ x ∈ l.take k, ¬ x > 3072, fun i => ((l.length : Int) - i).toNat, ⟨0, rfl, by omega, by simp⟩, ?_⟩
    rintro _ ⟨k, rfl, hk, ha2⟩
    refine cnd_dec (fun hlt => ⟨by omega, hlt, fun x hx => ?_⟩) fun hlt => ?_
    · rw [Int.toNat_natCast] at hx
      refine cnd_dec (fun q => ?_) fun q => ?_
      · have : l.any (fun x => decide (x > 3072)) = true := List.any_eq_true.2 ⟨x, List.mem_of_getElem? hx, by simpa using q⟩
        have e : sizedM least l n m = 3 := by unfold sizedM; rw [h1, this]; simp
        rwa [e] at h
      · rw [wr (by omega) (by omega)]
        refine ⟨⟨k + 1, by simp, by omega, ?_⟩, by dsimp only; omega⟩
        rw [List.take_add_one, hx]
        intro y hy
        rcases List.mem_append.1 hy with hy | hy
        · exact ha2 y hy
        · simp at hy; subst hy; exact q
    · have hke : k = l.length := by omega
      subst hke
      rw [List.take_length] at ha2
      have h2 : l.any (fun x => decide (x > 3072)) = false := by
        rw [List.any_eq_false]; intro x hx; simpa using ha2 x hx
      have e : sizedM least l n m = if n > 1024 then 3 else if m > 3072 then 3 else 0 := by unfold sizedM; rw [h1, h2]; simp
      rw [e] at h
      refine cnd_dec (fun q => ?_) fun q => cnd_dec (fun q2 => ?_) fun q2 => ?_
      · rwa [if_pos q] at h
      · rwa [if_neg q, if_pos q2] at h
      · rwa [if_neg q, if_neg q2] at h
def pathE (n : Nat) : List (Int × Int) := (List.range n).map fun (j : Nat) => ((j : Int), (j : Int) + 1)
theorem pathE_succ (n : Nat) : pathE (n + 1) = pathE n ++ [((n : Int), (n : Int) + 1)] := by simp [pathE, List.range_succ]
theorem okAdd {n : Int} {es : List (Int × Int)} {u v : Int} {R : Int → List (Int × Int) → Prop} (hl : es.length ≤ 1000000000) (h : R n (es ++ [(u, v)])) : Ok117 n es u v R := by
  apply ok117
  unfold T117
  exact ⟨by omega, h⟩
theorem okPathC {n k : Int} {R : Int → List (Int × Int) → Prop} (h1 : 1 ≤ k) (h2 : k ≤ 100000) (h : R n (pathE (k.toNat - 1))) : Ok200 n [] k R := by
  apply ok200
  unfold T200
  rw [wr (by omega) (by omega)]
  refine ⟨fun i a es => ∃ j : Nat, i = j ∧ (j : Int) ≤ k - 1 ∧ a = n ∧ es = pathE j, fun i _ _ => (k - i).toNat, ⟨0, rfl, by omega, rfl, rfl⟩, ?_⟩
  rintro _ _ _ ⟨j, rfl, hj, rfl, rfl⟩
  refine cnd_dec (fun hlt => okAdd (by simp [pathE]; omega) ?_) fun hlt => ?_
  · rw [wr (by omega) (by omega)]
    exact ⟨⟨j + 1, by simp, by omega, rfl, (pathE_succ j).symm⟩, by dsimp only; omega⟩
  · have : k.toNat - 1 = j := by omega
    rw [this] at h; exact h
theorem sizedM_one {n m : Int} (h : sizedM 1 [n] n m = 0) : 1 ≤ n ∧ n ≤ 1024 ∧ m ≤ 3072 := by
  unfold sizedM at h
  split at h
  · omega
  · rename_i q
    split at h
    · omega
    · split at h
      · omega
      · split at h
        · omega
        · simp at q; omega
theorem okPath {n : Int} {R : Int → List (Int × Int) → Int → Prop} (bad : sizedM 1 [n] n (IntKind.i64.wrap (n - 1)) ≠ 0 → R 0 [] (sizedM 1 [n] n (IntKind.i64.wrap (n - 1))))
    (good : sizedM 1 [n] n (IntKind.i64.wrap (n - 1)) = 0 → R n (pathE (n.toNat - 1)) 0) : Ok136 n R := by
  intro h hp
  have Y : Sy h [] h _ := Sy.startM hp rfl
  apply calls136
  unfold S136
  intro hv
  have Y : Sy _ _ hv [_] := Y.newO (ty := 3) [.int .i64 n]
  clear_value hv
  intro hv2
  have Y : Sy _ _ hv2 [_, _] := Y.junk _
  clear_value hv2
  have c := Y.cellO 0 rfl 0 rfl
  refine ⟨n, c, n, c, n, c, n, c, ?_⟩
  intro hv3
  have f3 : Fr [] hv2 hv3 := Fr.push _ _
  have Y3 : Sy _ _ hv3 [_, _, _] := Y.litS (E := eI) (ty := 3) [n] rfl (by simp [maxLen])
  clear_value hv3
  refine ⟨f3, ?_⟩
  refine callX_sy (okSized (l := [n]) (least := 1) (n := n) (m := IntKind.i64.wrap (n - 1)) (R := fun z => z = sizedM 1 [n] n (IntKind.i64.wrap (n - 1))) (by simp) rfl hv3 _ _ _ ((Y3.turn 2 rfl To.slvw).pick [2] rfl).hp) (fun _ _ ⟨_, p, _⟩ => p.fr) (allc (fun h => by cases h) alln) ?_
  rintro v hv4 ⟨r, PP, rfl, T⟩
  have Y : Sy _ _ hv4 [_, _, _] := Y3.gr PP.fr
  have f4 : Fr [] hv2 hv4 := f3.trans PP.fr
  clear PP
  refine ⟨r, rfl, f4, ?_⟩
  subst T
  have Z : Sy hv4 [] hv4 [_, _, _] := Sy.startM (((Y.turn 0 rfl To.obvob).turn 1 rfl To.no).turn 2 rfl To.no).hp rfl
  have M := made1 (Z.pick [0] rfl) (n := n) (f := 200) (R := R) bad (fun he h1 b hp1 => okPathC (R := fun k es => R k es 0) (n := n) (k := n) (by have := sizedM_one he; omega) (by have := sizedM_one he; omega) (good he) h1 b none 0 0 _ _ hp1)
  refine callX_sy (MA := []) (calls112_200 _ _ _ M) (fun _ _ ⟨_, _, _, _, _, _, p, _⟩ => p.fr) (allc (fun h => by cases h) alln) ?_
  rintro v2 hv5 ⟨k, A, L, C, es, rb, PP, rfl, T⟩
  have Y5 : Sy _ _ hv5 [_, _, _, _] := Y.callV PP ⟨rfl, trivial⟩
  refine ⟨_, _, _, _, _, rfl, f4.trans PP.fr, ?_⟩
  have Y6 : Sy _ _ _ [_, _, _, _] := (Y5.stJ 1 rfl 0 (.int .i64 k)).stJ 1 rfl (0 + 1) (.slice A L C)
  exact ⟨_, _, _, _, _, _, Y6.pick [3] rfl, rfl, T⟩
end Go.Proofs.Ytmcloipjlihhlaa.N
