/- Package maker: nets made by function values. Conditions: none. -/
import Derived.Test.YtmcloipjlihhlaaSMade
import Derived.Test.YtmcloipjlihhlaaTMade
import Derived.Test.YtmcloipjlihhlaaNNet
namespace Go.Proofs.Ytmcloipjlihhlaa.N
open Go.X Go.Proofs.Ytmcloipjlihhlaa
set_option maxRecDepth 100000

/-- What a function value does with the net that is being made. -/
def Mk (f : FuncId) (caps : List Ck) (ps : List Value) (n : Int) (R : Int → List (Int × Int) → Int → Prop) : Prop :=
  ∀ (h1 : Heap) (b : Nat), Hp h1 (Ck.ob b 229 [.int .i64 n, .slice none 0 0] :: Ck.sl eP 35 none 0 0 [] :: caps) → CallsH Try.prog f (List.toArray ([.pointer (some ⟨b, 0, none⟩)] ++ ps)) h1 fun v h' =>
      ∃ (A : Option Addr) (L C : Nat) (es : List (Int × Int)) (k : Int), Sy h1 (owns [Ck.ob b 229 [.int .i64 n, .slice none 0 0], Ck.sl eP 35 none 0 0 []]) h' [Ck.ob b 229 [.int .i64 k, .slice A L C], Ck.sl eP 35 A L C es] ∧ v = .tuple #[] ∧ R k es 0
theorem madeA {ev n : Int} {f : FuncId} {h : Heap} {b1 o1 : Nat} {v1 : List Value} {ps : List Value} {R : Int → List (Int × Int) → Int → Prop} (H : Hp h [Ck.vob b1 o1 v1]) (bad : ev ≠ 0 → R 0 [] ev) (ok : ev = 0 → Mk f [Ck.vob b1 o1 v1] ps n R) :
    S112 ev n f ps h fun v h' => ∃ (k : Int) (A : Option Addr) (L C : Nat) (es : List (Int × Int)) (rb : Int), Sy h [] h' [Ck.sl eP 35 A L C es] ∧ v = .tuple #[.agg #[.int .i64 k, .slice A L C], .int .i64 rb] ∧ R k es rb := by
  have Y : Sy h [] h [Ck.vob b1 o1 v1] := Sy.startM H rfl
  unfold S112
  intro hv
  have Y : Sy _ _ hv [_, _] := Y.junk _
  clear_value hv
  refine cnd_ne (fun he => ?_) fun he => ?_
  · have Y : Sy _ _ _ [_, _, _] := ((Y.stJ 1 rfl 0 (.int .i64 0)).stJ 1 rfl (0 + 1) (.slice none 0 0)).nilS eP 35
    exact ⟨_, _, _, _, _, _, Y.pick [2] rfl, rfl, bad he⟩
  · intro hv3
    have Y : Sy _ _ hv3 [_, _, _] := Y.newO (ty := 229) [.int .i64 n, .slice none 0 0]
    clear_value hv3
    have Y : Sy _ _ hv3 [_, _, _, _] := Y.nilS eP 35
    refine callX_sy (ok he hv3 hv.size (Y.pick [2, 3, 0] rfl).hp) (fun _ _ ⟨_, _, _, _, _, p, _⟩ => p.fr) (allc (fun hm => ?_) alln) ?_
    · exact Y.ne 1 2 (by decide) rfl rfl (x := h.size) (y := hv.size) (by simp [Ck.junk]) (by simp [Ck.ob]) (by simpa [owns, Ck.ob, Ck.sl, blkOf] using hm)
    · rintro v hv4 ⟨A, L, C, es, k, PP, rfl, T⟩
      have Y : Sy _ _ hv4 [_, _, _, _] := Y.call2 [2, 3, 0, 1] rfl (A := [_, _]) rfl rfl PP ⟨rfl, ⟨rfl, trivial⟩⟩
      refine ⟨rfl, k, Y.cellO 0 rfl 0 rfl, A, L, C, Y.cellO 0 rfl 1 rfl, ?_⟩
      have Y : Sy _ _ _ [_, _, _, _] := (Y.stJ 3 rfl 0 (.int .i64 k)).stJ 3 rfl (0 + 1) (.slice A L C)
      exact ⟨_, _, _, _, _, _, Y.pick [1] rfl, rfl, T⟩
theorem madeB {ev n : Int} {f : FuncId} {h : Heap} {b1 o1 b2 o2 : Nat} {v1 v2 : List Value} {ps : List Value} {R : Int → List (Int × Int) → Int → Prop} (H : Hp h [Ck.vob b1 o1 v1, Ck.vob b2 o2 v2]) (bad : ev ≠ 0 → R 0 [] ev) (ok : ev = 0 → Mk f [Ck.vob b1 o1 v1, Ck.vob b2 o2 v2] ps n R) :
    S112 ev n f ps h fun v h' => ∃ (k : Int) (A : Option Addr) (L C : Nat) (es : List (Int × Int)) (rb : Int), Sy h [] h' [Ck.sl eP 35 A L C es] ∧ v = .tuple #[.agg #[.int .i64 k, .slice A L C], .int .i64 rb] ∧ R k es rb := by
  have Y : Sy h [] h [Ck.vob b1 o1 v1, Ck.vob b2 o2 v2] := Sy.startM H rfl
  unfold S112
  intro hv
  have Y : Sy _ _ hv [_, _, _] := Y.junk _
  clear_value hv
  refine cnd_ne (fun he => ?_) fun he => ?_
  · have Y : Sy _ _ _ [_, _, _, _] := ((Y.stJ 2 rfl 0 (.int .i64 0)).stJ 2 rfl (0 + 1) (.slice none 0 0)).nilS eP 35
    exact ⟨_, _, _, _, _, _, Y.pick [3] rfl, rfl, bad he⟩
  · intro hv3
    have Y : Sy _ _ hv3 [_, _, _, _] := Y.newO (ty := 229) [.int .i64 n, .slice none 0 0]
    clear_value hv3
    have Y : Sy _ _ hv3 [_, _, _, _, _] := Y.nilS eP 35
    refine callX_sy (ok he hv3 hv.size (Y.pick [3, 4, 0, 1] rfl).hp) (fun _ _ ⟨_, _, _, _, _, p, _⟩ => p.fr) (allc (fun hm => ?_) alln) ?_
    · exact Y.ne 2 3 (by decide) rfl rfl (x := h.size) (y := hv.size) (by simp [Ck.junk]) (by simp [Ck.ob]) (by simpa [owns, Ck.ob, Ck.sl, blkOf] using hm)
    · rintro v hv4 ⟨A, L, C, es, k, PP, rfl, T⟩
      have Y : Sy _ _ hv4 [_, _, _, _, _] := Y.call2 [3, 4, 0, 1, 2] rfl (A := [_, _]) rfl rfl PP ⟨rfl, ⟨rfl, trivial⟩⟩
      refine ⟨rfl, k, Y.cellO 0 rfl 0 rfl, A, L, C, Y.cellO 0 rfl 1 rfl, ?_⟩
      have Y : Sy _ _ _ [_, _, _, _, _] := (Y.stJ 4 rfl 0 (.int .i64 k)).stJ 4 rfl (0 + 1) (.slice A L C)
      exact ⟨_, _, _, _, _, _, Y.pick [1] rfl, rfl, T⟩
theorem madeC {ev n : Int} {f : FuncId} {h : Heap} {b1 o1 b2 o2 b3 o3 : Nat} {v1 v2 v3 : List Value} {ps : List Value} {R : Int → List (Int × Int) → Int → Prop} (H : Hp h [Ck.vob b1 o1 v1, Ck.vob b2 o2 v2, Ck.vob b3 o3 v3]) (bad : ev ≠ 0 → R 0 [] ev) (ok : ev = 0 → Mk f [Ck.vob b1 o1 v1, Ck.vob b2 o2 v2, Ck.vob b3 o3 v3] ps n R) :
    S112 ev n f ps h fun v h' => ∃ (k : Int) (A : Option Addr) (L C : Nat) (es : List (Int × Int)) (rb : Int), Sy h [] h' [Ck.sl eP 35 A L C es] ∧ v = .tuple #[.agg #[.int .i64 k, .slice A L C], .int .i64 rb] ∧ R k es rb := by
  have Y : Sy h [] h [Ck.vob b1 o1 v1, Ck.vob b2 o2 v2, Ck.vob b3 o3 v3] := Sy.startM H rfl
  unfold S112
  intro hv
  have Y : Sy _ _ hv [_, _, _, _] := Y.junk _
  clear_value hv
  refine cnd_ne (fun he => ?_) fun he => ?_
  · have Y : Sy _ _ _ [_, _, _, _, _] := ((Y.stJ 3 rfl 0 (.int .i64 0)).stJ 3 rfl (0 + 1) (.slice none 0 0)).nilS eP 35
    exact ⟨_, _, _, _, _, _, Y.pick [4] rfl, rfl, bad he⟩
  · intro hv3
    have Y : Sy _ _ hv3 [_, _, _, _, _] := Y.newO (ty := 229) [.int .i64 n, .slice none 0 0]
    clear_value hv3
    have Y : Sy _ _ hv3 [_, _, _, _, _, _] := Y.nilS eP 35
    refine callX_sy (ok he hv3 hv.size (Y.pick [4, 5, 0, 1, 2] rfl).hp) (fun _ _ ⟨_, _, _, _, _, p, _⟩ => p.fr) (allc (fun hm => ?_) alln) ?_
    · exact Y.ne 3 4 (by decide) rfl rfl (x := h.size) (y := hv.size) (by simp [Ck.junk]) (by simp [Ck.ob]) (by simpa [owns, Ck.ob, Ck.sl, blkOf] using hm)
    · rintro v hv4 ⟨A, L, C, es, k, PP, rfl, T⟩
      have Y : Sy _ _ hv4 [_, _, _, _, _, _] := Y.call2 [4, 5, 0, 1, 2, 3] rfl (A := [_, _]) rfl rfl PP ⟨rfl, ⟨rfl, trivial⟩⟩
      refine ⟨rfl, k, Y.cellO 0 rfl 0 rfl, A, L, C, Y.cellO 0 rfl 1 rfl, ?_⟩
      have Y : Sy _ _ _ [_, _, _, _, _, _] := (Y.stJ 5 rfl 0 (.int .i64 k)).stJ 5 rfl (0 + 1) (.slice A L C)
      exact ⟨_, _, _, _, _, _, Y.pick [1] rfl, rfl, T⟩
section
variable {ev n c d e : Int} {R : Int → List (Int × Int) → Int → Prop}
theorem ok112_120 (bad : ev ≠ 0 → R 0 [] ev) (ok : ev = 0 → Ok120 n [] c fun k es => R k es 0) : Ok112_120 ev n c R := fun _ cB cO hp => calls112_120 _ _ _ (madeA hp bad fun z h1 b q => ok z h1 b none 0 0 cB cO q)
theorem ok112_121 (bad : ev ≠ 0 → R 0 [] ev) (ok : ev = 0 → Ok121 n [] c fun k es => R k es 0) : Ok112_121 ev n c R := fun _ cB cO hp => calls112_121 _ _ _ (madeA hp bad fun z h1 b q => ok z h1 b none 0 0 cB cO q)
theorem ok112_122 (bad : ev ≠ 0 → R 0 [] ev) (ok : ev = 0 → Ok122 n [] c fun k es => R k es 0) : Ok112_122 ev n c R := fun _ cB cO hp => calls112_122 _ _ _ (madeA hp bad fun z h1 b q => ok z h1 b none 0 0 cB cO q)
theorem ok112_123 (bad : ev ≠ 0 → R 0 [] ev) (ok : ev = 0 → Ok123 n [] c fun k es => R k es 0) : Ok112_123 ev n c R := fun _ cB cO hp => calls112_123 _ _ _ (madeA hp bad fun z h1 b q => ok z h1 b none 0 0 cB cO q)
theorem ok112_200 (bad : ev ≠ 0 → R 0 [] ev) (ok : ev = 0 → Ok200 n [] c fun k es => R k es 0) : Ok112_200 ev n c R := fun _ cB cO hp => calls112_200 _ _ _ (madeA hp bad fun z h1 b q => ok z h1 b none 0 0 cB cO q)
theorem ok112_201 (bad : ev ≠ 0 → R 0 [] ev) (ok : ev = 0 → Ok201 n [] c fun k es => R k es 0) : Ok112_201 ev n c R := fun _ cB cO hp => calls112_201 _ _ _ (madeA hp bad fun z h1 b q => ok z h1 b none 0 0 cB cO q)
theorem ok112_125 (bad : ev ≠ 0 → R 0 [] ev) (ok : ev = 0 → Ok125 n [] c d fun k es => R k es 0) : Ok112_125 ev n c d R := fun _ cB cO dB dO hp => calls112_125 _ _ _ _ (madeB hp bad fun z h1 b q => ok z h1 b none 0 0 cB cO dB dO q)
theorem ok112_126 (bad : ev ≠ 0 → R 0 [] ev) (ok : ev = 0 → Ok126 n [] c d fun k es => R k es 0) : Ok112_126 ev n c d R := fun _ cB cO dB dO hp => calls112_126 _ _ _ _ (madeB hp bad fun z h1 b q => ok z h1 b none 0 0 cB cO dB dO q)
theorem ok112_114 (bad : ev ≠ 0 → R 0 [] ev) (ok : ev = 0 → Ok114 n [] c d fun k es => R k es 0) : Ok112_114 ev n c d R := fun _ cB cO dB dO hp => calls112_114 _ _ _ _ (madeB hp bad fun z h1 b q => ok z h1 b none 0 0 cB cO dB dO q)
theorem ok112_202 (bad : ev ≠ 0 → R 0 [] ev) (ok : ev = 0 → Ok202 n [] c d e fun k es => R k es 0) : Ok112_202 ev n c d e R := fun _ cB cO dB dO eB eO hp => calls112_202 _ _ _ _ _ (madeC hp bad fun z h1 b q => ok z h1 b none 0 0 cB cO dB dO eB eO q)
end

/-! ### Numbers that may be -/
def sizeE (least : Int) (l : List Int) (n m : Int) : Int :=
  if l.any (fun x => decide (x < least)) then 1 else if l.any (fun x => decide (x > 3072)) then 3 else if n > 1024 then 3 else if m > 3072 then 3 else 0
theorem okSize {least n m : Int} {l : List Int} {R : Int → Prop} (hl : l.length ≤ 1000000) (h : R (sizeE least l n m)) : Ok113 least l n m R := by
  apply ok113
  unfold T113
  refine ⟨fun i => ∃ k : Nat, i = k ∧ k ≤ l.length ∧ ∀ x ∈ l.take k, ¬ x < least, fun i => ((l.length : Int) - i).toNat, ⟨0, rfl, by omega, by simp⟩, ?_⟩
  rintro _ ⟨k, rfl, hk, ha⟩
  refine cnd_dec (fun hlt => ⟨by omega, hlt, fun x hx => ?_⟩) fun hlt => ?_
  · rw [Int.toNat_natCast] at hx
    refine cnd_dec (fun q => ?_) fun q => ?_
    · have : l.any (fun x => decide (x < least)) = true := List.any_eq_true.2 ⟨x, List.mem_of_getElem? hx, by simpa using q⟩
      simpa [sizeE, this] using h
    · rw [wr (by omega) (by omega)]
      refine ⟨⟨k + 1, by simp, by omega, ?_⟩, by dsimp only; omega⟩
      rw [List.take_add_one, hx]
      intro y hy
      rcases List.mem_append.1 hy with hy | hy
      · exact ha y hy
      · simp at hy; subst hy; exact q
  · have hke : k = l.length := by omega
    subst hke
    rw [List.take_length] at ha
    have h1 : l.any (fun x => decide (x < least)) = false := by
      rw [List.any_eq_false]; intro x hx; simpa using ha x hx
    refine ⟨fun i => ∃ k : Nat, i = k ∧ k ≤ l.length ∧ ∀ x ∈ l.take k, ¬ x > 3072, fun i => ((l.length : Int) - i).toNat, ⟨0, rfl, by omega, by simp⟩, ?_⟩
    rintro _ ⟨k, rfl, hk, ha2⟩
    refine cnd_dec (fun hlt => ⟨by omega, hlt, fun x hx => ?_⟩) fun hlt => ?_
    · rw [Int.toNat_natCast] at hx
      refine cnd_dec (fun q => ?_) fun q => ?_
      · have : l.any (fun x => decide (x > 3072)) = true := List.any_eq_true.2 ⟨x, List.mem_of_getElem? hx, by simpa using q⟩
        have e : sizeE least l n m = 3 := by unfold sizeE; rw [h1, this]; simp
        rwa [e] at h
      · rw [wr (by omega) (by omega)]
        refine ⟨⟨k + 1, by simp, by omega, ?_⟩, by dsimp only; omega⟩
        rw [List.take_add_one, hx]
        intro y hy
        rcases List.mem_append.1 hy with hy | hy
        · exact ha2 y hy
        · simp at hy; subst hy; exact q
    · have hke : k = l.length := by omega
      subst hke
      rw [List.take_length] at ha2
      have h2 : l.any (fun x => decide (x > 3072)) = false := by
        rw [List.any_eq_false]; intro x hx; simpa using ha2 x hx
      have e : sizeE least l n m = if n > 1024 then 3 else if m > 3072 then 3 else 0 := by unfold sizeE; rw [h1, h2]; simp
      rw [e] at h
      refine cnd_dec (fun q => ?_) fun q => cnd_dec (fun q2 => ?_) fun q2 => ?_
      · rwa [if_pos q] at h
      · rwa [if_neg q, if_pos q2] at h
      · rwa [if_neg q, if_neg q2] at h
theorem size1 {least x n m : Int} (h : sizeE least [x] n m = 0) : least ≤ x ∧ x ≤ 3072 ∧ n ≤ 1024 ∧ m ≤ 3072 := by
  unfold sizeE at h
  simp at h
  repeat' split at h
  all_goals omega
theorem size2 {least x y n m : Int} (h : sizeE least [x, y] n m = 0) : (least ≤ x ∧ least ≤ y) ∧ (x ≤ 3072 ∧ y ≤ 3072) ∧ n ≤ 1024 ∧ m ≤ 3072 := by
  unfold sizeE at h
  simp at h
  repeat' split at h
  all_goals omega
theorem okTo' {n : Int} {es : List (Int × Int)} {u v : Int} {R : Int → List (Int × Int) → Prop} (hl : es.length ≤ 1000000000) (h : R n (es ++ [(u, v)])) : Ok117 n es u v R := by
  apply ok117
  unfold T117
  exact ⟨by omega, h⟩

/-! ### The edges of each kind -/
def rangeE (f : Nat → Int × Int) (n : Nat) : List (Int × Int) := (List.range n).map f
theorem rangeE_succ (f : Nat → Int × Int) (n : Nat) : rangeE f (n + 1) = rangeE f n ++ [f n] := by simp [rangeE, List.range_succ]
theorem rangeE_len (f : Nat → Int × Int) (n : Nat) : (rangeE f n).length = n := by simp [rangeE]
def ringE (at' : Int) (n : Nat) : List (Int × Int) := rangeE (fun i => (at' + i, at' + i + 1)) (n - 1) ++ [(at' + n - 1, at')]
theorem ringE_len (at' : Int) (n : Nat) (h : 1 ≤ n) : (ringE at' n).length = n := by simp [ringE, rangeE_len]; omega
def pathE' (n : Nat) : List (Int × Int) := rangeE (fun i => ((i : Int), (i : Int) + 1)) (n - 1)
def rowsE (f : Nat → List (Int × Int)) : Nat → List (Int × Int)
  | 0 => []
  | k + 1 => rowsE f k ++ f k
def compE (n : Nat) : List (Int × Int) := rowsE (fun i => rangeE (fun k => ((i : Int), (i : Int) + 1 + k)) (n - 1 - i)) n
def twoE (a b : Nat) : List (Int × Int) := rowsE (fun i => rangeE (fun k => ((i : Int), (a : Int) + k)) b) a
def gridV (w h y x : Nat) : List (Int × Int) :=
  (if x + 1 < w then [((y : Int) * w + x, (y : Int) * w + x + 1)] else []) ++ (if y + 1 < h then [((y : Int) * w + x, (y : Int) * w + x + w)] else [])
def gridE (w h : Nat) : List (Int × Int) := rowsE (fun y => rowsE (gridV w h y) w) h
def wheelE (n : Nat) : List (Int × Int) := ringE 0 n ++ rangeE (fun i => ((n : Int), (i : Int))) n
def prismE (n : Nat) : List (Int × Int) := ringE 0 n ++ ringE n n ++ rangeE (fun i => ((i : Int), (n : Int) + i)) n
def bondE (n : Nat) : List (Int × Int) := rangeE (fun _ => (0, 1)) n
theorem rowsE_len {f : Nat → List (Int × Int)} {c : Nat} (h : ∀ i, (f i).length ≤ c) : ∀ n, (rowsE f n).length ≤ n * c
  | 0 => by simp [rowsE]
  | n + 1 => by
    have := rowsE_len h n
    have := h n
    rw [rowsE, List.length_append, Nat.add_mul, Nat.one_mul]; omega
theorem okRing' {n : Int} {es : List (Int × Int)} {at' c : Int} {R : Int → List (Int × Int) → Prop} (hl : es.length ≤ 1000000) (a0 : 0 ≤ at') (a1 : at' ≤ 100000) (h1 : 1 ≤ c) (h2 : c ≤ 100000) (h : R n (es ++ ringE at' c.toNat)) : Ok115 n es at' c R := by
  apply ok115
  unfold T115
  rw [wr (x := c - 1) (by omega) (by omega)]
  refine ⟨fun x k l => ∃ j : Nat, x = j ∧ (j : Int) ≤ c - 1 ∧ k = n ∧ l = es ++ rangeE (fun i => (at' + i, at' + i + 1)) j, fun x _ _ => (c - x).toNat, ⟨0, rfl, by omega, rfl, by simp [rangeE]⟩, ?_⟩
  rintro _ _ _ ⟨j, rfl, hj, rfl, rfl⟩
  have hlen : (es ++ rangeE (fun i => (at' + (i : Int), at' + (i : Int) + 1)) j).length = es.length + j := by simp [rangeE_len]
  refine cnd_dec (fun hlt => okTo' (by omega) ?_) fun hlt => okTo' (by omega) ?_
  · rw [wr (x := at' + (j : Int)) (by omega) (by omega), wr (x := at' + (j : Int) + 1) (by omega) (by omega), wr (x := (j : Int) + 1) (by omega) (by omega)]
    refine ⟨⟨j + 1, by simp, by omega, rfl, ?_⟩, by dsimp only; omega⟩
    rw [rangeE_succ, List.append_assoc]
  · have hj2 : j = c.toNat - 1 := by omega
    subst hj2
    rw [wr (x := at' + c) (by omega) (by omega), wr (x := at' + c - 1) (by omega) (by omega), List.append_assoc]
    have : ringE at' c.toNat = rangeE (fun i => (at' + (i : Int), at' + (i : Int) + 1)) (c.toNat - 1) ++ [(at' + c - 1, at')] := by
      unfold ringE
      rw [Int.toNat_of_nonneg (by omega)]
    rw [← this]; exact h
theorem okCycle {n : Int} {R : Int → List (Int × Int) → Int → Prop} (bad : sizeE 1 [n] n n ≠ 0 → R 0 [] (sizeE 1 [n] n n)) (good : sizeE 1 [n] n n = 0 → R n (ringE 0 n.toNat) 0) : Ok30 n R := by
  apply ok30
  unfold T30
  refine okSize (by simp) (ok112_120 bad fun q => ?_)
  have s := size1 q
  apply ok120
  unfold T120
  exact okRing' (by simp) (by omega) (by omega) (by omega) (by omega) (by simpa using good q)
theorem okPathM {n : Int} {R : Int → List (Int × Int) → Int → Prop} (bad : sizeE 1 [n] n (IntKind.i64.wrap (n - 1)) ≠ 0 → R 0 [] (sizeE 1 [n] n (IntKind.i64.wrap (n - 1)))) (good : sizeE 1 [n] n (IntKind.i64.wrap (n - 1)) = 0 → R n (pathE' n.toNat) 0) : Ok136 n R := by
  apply ok136
  unfold T136
  refine okSize (by simp) (ok112_200 bad fun q => ?_)
  have s := size1 q
  have good := good q
  apply ok200
  unfold T200
  rw [wr (by omega) (by omega)]
  refine ⟨fun i a es => ∃ j : Nat, i = j ∧ (j : Int) ≤ n - 1 ∧ n = a ∧ es = rangeE (fun i => ((i : Int), (i : Int) + 1)) j, fun i _ _ => (n - i).toNat, ⟨0, rfl, by omega, rfl, rfl⟩, ?_⟩
  rintro _ _ _ ⟨j, rfl, hj, rfl, rfl⟩
  refine cnd_dec (fun hlt => okTo' (by rw [rangeE_len]; omega) ?_) fun hlt => ?_
  · rw [wr (by omega) (by omega)]
    exact ⟨⟨j + 1, by simp, by omega, rfl, (rangeE_succ _ j).symm⟩, by dsimp only; omega⟩
  · have hj2 : j = n.toNat - 1 := by omega
    subst hj2; exact good
def minN (n : Int) : Int := if (3072 : Int) < n then 3072 else n
theorem okWheel {n : Int} {R : Int → List (Int × Int) → Int → Prop} (bad : sizeE 3 [n] (IntKind.i64.wrap (minN n + 1)) (IntKind.i64.wrap (2 * minN n)) ≠ 0 → R 0 [] (sizeE 3 [n] (IntKind.i64.wrap (minN n + 1)) (IntKind.i64.wrap (2 * minN n))))
    (good : sizeE 3 [n] (IntKind.i64.wrap (minN n + 1)) (IntKind.i64.wrap (2 * minN n)) = 0 → R (n + 1) (wheelE n.toNat) 0) : Ok31 n R := by
  apply ok31
  unfold T31
  refine okSize (by simp) (ok112_121 bad fun q => ?_)
  have s := size1 q
  have good := good q
  rw [wr (x := n + 1) (by omega) (by omega)]
  apply ok121
  unfold T121
  refine okRing' (by simp) (by omega) (by omega) (by omega) (by omega) ?_
  rw [List.nil_append]
  have rl := ringE_len 0 n.toNat (by omega)
  refine ⟨fun i a es => ∃ j : Nat, i = j ∧ (j : Int) ≤ n ∧ a = n + 1 ∧ es = ringE 0 n.toNat ++ rangeE (fun i => ((n.toNat : Int), (i : Int))) j, fun i _ _ => (n - i).toNat, ⟨0, rfl, by omega, rfl, by simp [rangeE]⟩, ?_⟩
  rintro _ _ _ ⟨j, rfl, hj, rfl, rfl⟩
  refine cnd_dec (fun hlt => okTo' (by rw [List.length_append, rangeE_len, rl]; omega) ?_) fun hlt => ?_
  · rw [wr (by omega) (by omega)]
    refine ⟨⟨j + 1, by simp, by omega, rfl, ?_⟩, by dsimp only; omega⟩
    rw [rangeE_succ, List.append_assoc, Int.toNat_of_nonneg (by omega)]
  · have hj2 : j = n.toNat := by omega
    subst hj2; exact good
theorem okPrism {n : Int} {R : Int → List (Int × Int) → Int → Prop} (bad : sizeE 3 [n] (IntKind.i64.wrap (2 * minN n)) (IntKind.i64.wrap (3 * minN n)) ≠ 0 → R 0 [] (sizeE 3 [n] (IntKind.i64.wrap (2 * minN n)) (IntKind.i64.wrap (3 * minN n))))
    (good : sizeE 3 [n] (IntKind.i64.wrap (2 * minN n)) (IntKind.i64.wrap (3 * minN n)) = 0 → R (2 * n) (prismE n.toNat) 0) : Ok32 n R := by
  apply ok32
  unfold T32
  refine okSize (by simp) (ok112_122 bad fun q => ?_)
  have s := size1 q
  have good := good q
  have em : (if (3072 : Int) < n then (3072 : Int) else n) = n := if_neg (by omega)
  rw [em, wr (x := 2 * n) (by omega) (by omega)]
  apply ok122
  unfold T122
  have rl := ringE_len 0 n.toNat (by omega)
  have rl2 := ringE_len n n.toNat (by omega)
  refine okRing' (by simp) (by omega) (by omega) (by omega) (by omega) (okRing' (by simp [rl]; omega) (by omega) (by omega) (by omega) (by omega) ?_)
  rw [List.nil_append]
  refine ⟨fun i a es => ∃ j : Nat, i = j ∧ (j : Int) ≤ n ∧ a = 2 * n ∧ es = ringE 0 n.toNat ++ ringE n n.toNat ++ rangeE (fun i => ((i : Int), (n.toNat : Int) + i)) j, fun i _ _ => (n - i).toNat, ⟨0, rfl, by omega, rfl, by simp [rangeE]⟩, ?_⟩
  rintro _ _ _ ⟨j, rfl, hj, rfl, rfl⟩
  refine cnd_dec (fun hlt => okTo' (by rw [List.length_append, List.length_append, rangeE_len, rl, rl2]; omega) ?_) fun hlt => ?_
  · rw [wr (x := n + (j : Int)) (by omega) (by omega), wr (by omega) (by omega)]
    refine ⟨⟨j + 1, by simp, by omega, rfl, ?_⟩, by dsimp only; omega⟩
    rw [rangeE_succ, ← List.append_assoc, Int.toNat_of_nonneg (by omega)]
  · have hj2 : j = n.toNat := by omega
    subst hj2
    unfold prismE at good
    rw [Int.toNat_of_nonneg (by omega)] at good
    rw [Int.toNat_of_nonneg (by omega)]
    exact good
def compM (n : Int) : Int := if n ≤ 3072 then IntKind.i64.wrap (Int.tdiv (IntKind.i64.wrap (n * IntKind.i64.wrap (n - 1))) 2) else 0
theorem okComplete {n : Int} {R : Int → List (Int × Int) → Int → Prop} (bad : sizeE 1 [n] n (compM n) ≠ 0 → R 0 [] (sizeE 1 [n] n (compM n))) (good : sizeE 1 [n] n (compM n) = 0 → R n (compE n.toNat) 0) : Ok33 n R := by
  apply ok33
  unfold T33
  refine ⟨fun m => m = compM n, cnd_dec (fun q => ⟨by decide, ?_⟩) (fun q => ?_), ?_⟩
  · unfold compM; rw [if_pos q]
  · unfold compM; rw [if_neg q]
  rintro _ rfl
  refine okSize (by simp) (ok112_123 bad fun q => ?_)
  have s := size1 q
  have good := good q
  apply ok123
  unfold T123
  have rl : ∀ k, (rowsE (fun i => rangeE (fun k => ((i : Int), (i : Int) + 1 + k)) (n.toNat - 1 - i)) k).length ≤ k * 3072 := rowsE_len fun i => by rw [rangeE_len]; omega
  refine ⟨fun i a es => ∃ j : Nat, i = j ∧ (j : Int) ≤ n ∧ n = a ∧ es = rowsE (fun i => rangeE (fun k => ((i : Int), (i : Int) + 1 + k)) (n.toNat - 1 - i)) j, fun i _ _ => (n - i).toNat, ⟨0, rfl, by omega, rfl, rfl⟩, ?_⟩
  rintro _ _ _ ⟨j, rfl, hj, rfl, rfl⟩
  refine cnd_dec (fun hlt => ?_) fun hlt => ?_
  · rw [wr (x := (j : Int) + 1) (by omega) (by omega)]
    refine ⟨fun k a es => ∃ x : Nat, k = (j : Int) + 1 + x ∧ (x : Int) ≤ n - 1 - j ∧ n = a ∧ es = rowsE (fun i => rangeE (fun k => ((i : Int), (i : Int) + 1 + k)) (n.toNat - 1 - i)) j ++ rangeE (fun k => ((j : Int), (j : Int) + 1 + k)) x, fun k _ _ => (n - k).toNat, ⟨0, by omega, by omega, rfl, by simp [rangeE]⟩, ?_⟩
    rintro _ _ _ ⟨x, rfl, hx, rfl, rfl⟩
    refine cnd_dec (fun hlt2 => okTo' (by have := rl j; rw [List.length_append, rangeE_len]; omega) ?_) fun hlt2 => ?_
    · rw [wr (by omega) (by omega)]
      refine ⟨⟨x + 1, by omega, by omega, rfl, ?_⟩, by dsimp only; omega⟩
      rw [rangeE_succ, List.append_assoc]
    · have hx2 : x = n.toNat - 1 - j := by omega
      subst hx2
      exact ⟨⟨j + 1, by simp, by omega, rfl, rfl⟩, by dsimp only; omega⟩
  · have hj2 : j = n.toNat := by omega
    subst hj2; exact good
def prodM (a b : Int) : Int := if a < 0 ∨ b < 0 ∨ a > 3072 ∨ b > 3072 then 0 else IntKind.i64.wrap (a * b)
theorem okProd {a b : Int} {R : Int → Prop} (h : R (prodM a b)) : Ok124 a b R := by
  apply ok124
  unfold T124
  refine ⟨a < 0 ∨ b < 0 ∨ a > 3072 ∨ b > 3072, cnd_dec (fun q => .inl q) fun q1 => cnd_dec (fun q => .inr (.inl q)) fun q2 => cnd_dec (fun q => .inr (.inr (.inl q))) fun q3 => cnd_dec (fun q => ?_) fun q4 => ?_, fun q => ?_⟩
  · unfold prodM at h; rw [if_pos (.inr (.inr (.inr q)))] at h; exact h
  · unfold prodM at h; rw [if_neg (by omega)] at h; exact h
  · unfold prodM at h; rw [if_pos q] at h; exact h
def twoN (a b : Int) : Int := if a ≤ 3072 ∧ b ≤ 3072 then IntKind.i64.wrap (a + b) else 0
theorem okTwo {a b : Int} {R : Int → List (Int × Int) → Int → Prop} (bad : sizeE 1 [a, b] (twoN a b) (prodM a b) ≠ 0 → R 0 [] (sizeE 1 [a, b] (twoN a b) (prodM a b))) (good : sizeE 1 [a, b] (twoN a b) (prodM a b) = 0 → R (a + b) (twoE a.toNat b.toNat) 0) : Ok34 a b R := by
  apply ok34
  unfold T34
  refine ⟨fun n => n = twoN a b, cnd_dec (fun q1 => ⟨fun n => n = twoN a b, cnd_dec (fun q2 => ?_) (fun q2 => ?_), fun n e => e⟩) (fun q1 => ?_), ?_⟩
  · unfold twoN; rw [if_pos ⟨q1, q2⟩]
  · unfold twoN; rw [if_neg (fun z => q2 z.2)]
  · unfold twoN; rw [if_neg (fun z => q1 z.1)]
  rintro _ rfl
  refine ⟨R, okProd (okSize (by simp) (ok112_125 bad fun q => ?_)), fun _ _ _ z => z⟩
  have s := size2 q
  have good := good q
  have en : twoN a b = a + b := by unfold twoN; rw [if_pos s.2.1, wr (by omega) (by omega)]
  rw [en]
  apply ok125
  unfold T125
  have rl : ∀ k, (rowsE (fun i => rangeE (fun k => ((i : Int), (a.toNat : Int) + k)) b.toNat) k).length ≤ k * 3072 := rowsE_len fun i => by rw [rangeE_len]; omega
  refine ⟨fun i n es => ∃ j : Nat, i = j ∧ (j : Int) ≤ a ∧ n = a + b ∧ es = rowsE (fun i => rangeE (fun k => ((i : Int), (a.toNat : Int) + k)) b.toNat) j, fun i _ _ => (a - i).toNat, ⟨0, rfl, by omega, rfl, rfl⟩, ?_⟩
  rintro _ _ _ ⟨j, rfl, hj, rfl, rfl⟩
  refine cnd_dec (fun hlt => ?_) fun hlt => ?_
  · refine ⟨fun k n es => ∃ x : Nat, k = x ∧ (x : Int) ≤ b ∧ n = a + b ∧ es = rowsE (fun i => rangeE (fun k => ((i : Int), (a.toNat : Int) + k)) b.toNat) j ++ rangeE (fun k => ((j : Int), (a.toNat : Int) + k)) x, fun k _ _ => (b - k).toNat, ⟨0, rfl, by omega, rfl, by simp [rangeE]⟩, ?_⟩
    rintro _ _ _ ⟨x, rfl, hx, rfl, rfl⟩
    refine cnd_dec (fun hlt2 => okTo' (by have := rl j; rw [List.length_append, rangeE_len]; omega) ?_) fun hlt2 => ?_
    · rw [wr (x := a + (x : Int)) (by omega) (by omega), wr (by omega) (by omega)]
      refine ⟨⟨x + 1, by simp, by omega, rfl, ?_⟩, by dsimp only; omega⟩
      rw [rangeE_succ, List.append_assoc, Int.toNat_of_nonneg (by omega)]
    · have hx2 : x = b.toNat := by omega
      subst hx2
      rw [wr (by omega) (by omega)]
      exact ⟨⟨j + 1, by simp, by omega, rfl, rfl⟩, by dsimp only; omega⟩
  · have hj2 : j = a.toNat := by omega
    subst hj2; exact good
def gridM (w h : Int) : Int := IntKind.i64.wrap (prodM (IntKind.i64.wrap (w - 1)) h + prodM w (IntKind.i64.wrap (h - 1)))
theorem okGrid {w h : Int} {R : Int → List (Int × Int) → Int → Prop} (bad : sizeE 1 [w, h] (prodM w h) (gridM w h) ≠ 0 → R 0 [] (sizeE 1 [w, h] (prodM w h) (gridM w h))) (good : sizeE 1 [w, h] (prodM w h) (gridM w h) = 0 → R (w * h) (gridE w.toNat h.toNat) 0) : Ok35 w h R := by
  apply ok35
  unfold T35
  refine okProd (okProd (okProd (okSize (by simp) (ok112_126 bad fun q => ?_))))
  have s := size2 q
  have good := good q
  have wh : w * h ≤ 3072 * 3072 := Int.mul_le_mul (by omega) (by omega) (by omega) (by omega)
  have wh0 : 0 ≤ w * h := Int.mul_nonneg (by omega) (by omega)
  have en : prodM w h = w * h := by unfold prodM; rw [if_neg (by omega), wr (by omega) (by omega)]
  rw [en]
  obtain ⟨W, hW⟩ : ∃ W : Nat, w = W := ⟨w.toNat, by omega⟩
  obtain ⟨H, hH⟩ : ∃ H : Nat, h = H := ⟨h.toNat, by omega⟩
  subst hW hH
  rw [Int.toNat_natCast, Int.toNat_natCast] at good
  apply ok126
  unfold T126
  have gv : ∀ y x, (gridV W H y x).length ≤ 2 := fun y x => by
    unfold gridV
    rw [List.length_append]
    split <;> split <;> simp
  have rl1 : ∀ y k, (rowsE (gridV W H y) k).length ≤ k * 2 := fun y => rowsE_len (gv y)
  have rl : ∀ k, (rowsE (fun y => rowsE (gridV W H y) W) k).length ≤ k * 6144 := rowsE_len fun y => by have := rl1 y W; omega
  refine ⟨fun i n es => ∃ y : Nat, i = y ∧ y ≤ H ∧ n = (W : Int) * H ∧ es = rowsE (fun y => rowsE (gridV W H y) W) y, fun i _ _ => ((H : Int) - i).toNat, ⟨0, rfl, by omega, rfl, rfl⟩, ?_⟩
  rintro _ _ _ ⟨y, rfl, hy, rfl, rfl⟩
  refine cnd_dec (fun hlt => ?_) fun hlt => ?_
  · refine ⟨fun k n es => ∃ x : Nat, k = x ∧ x ≤ W ∧ n = (W : Int) * H ∧ es = rowsE (fun y => rowsE (gridV W H y) W) y ++ rowsE (gridV W H y) x, fun k _ _ => ((W : Int) - k).toNat, ⟨0, rfl, by omega, rfl, by simp [rowsE]⟩, ?_⟩
    rintro _ _ _ ⟨x, rfl, hx, rfl, rfl⟩
    have yw : (y : Int) * W ≤ 3072 * 3072 := Int.mul_le_mul (by omega) (by omega) (by omega) (by omega)
    have yw0 : 0 ≤ (y : Int) * W := Int.mul_nonneg (by omega) (by omega)
    have l1 := rl y
    have l2 := rl1 y x
    generalize hE : rowsE (fun y => rowsE (gridV W H y) W) y ++ rowsE (gridV W H y) x = E
    have hEl : E.length ≤ 100000000 := by rw [← hE, List.length_append]; omega
    refine cnd_dec (fun hlt2 => ?_) fun hlt2 => ?_
    · rw [wr (x := (x : Int) + 1) (by omega) (by omega), wr (x := (y : Int) + 1) (by omega) (by omega), wr (x := (y : Int) * W) (by omega) (by omega), wr (x := (y : Int) * W + x) (by omega) (by omega), wr (x := (y : Int) * W + x + 1) (by omega) (by omega), wr (x := (y : Int) * W + x + W) (by omega) (by omega)]
      refine ⟨fun n es => n = (W : Int) * H ∧ es = E ++ (if x + 1 < W then [((y : Int) * W + x, (y : Int) * W + x + 1)] else []), cnd_dec (fun q1 => okTo' (by omega) ⟨rfl, ?_⟩) (fun q1 => ⟨rfl, ?_⟩), ?_⟩
      · rw [if_pos (by omega)]
      · rw [if_neg (by omega), List.append_nil]
      rintro _ es ⟨rfl, hes⟩
      have hesl : es.length ≤ 100000001 := by
        rw [hes, List.length_append]
        split
        · simp; omega
        · simp; omega
      refine ⟨fun n l => n = (W : Int) * H ∧ l = es ++ (if y + 1 < H then [((y : Int) * W + x, (y : Int) * W + x + W)] else []), cnd_dec (fun q1 => okTo' (by omega) ⟨rfl, ?_⟩) (fun q1 => ⟨rfl, ?_⟩), ?_⟩
      · rw [if_pos (by omega)]
      · rw [if_neg (by omega), List.append_nil]
      rintro _ l ⟨rfl, hl⟩
      refine ⟨⟨x + 1, by simp, by omega, rfl, ?_⟩, by dsimp only; omega⟩
      rw [hl, hes, ← hE, rowsE, List.append_assoc, List.append_assoc]
      rfl
    · have hx2 : x = W := by omega
      subst hx2
      rw [wr (by omega) (by omega)]
      exact ⟨⟨y + 1, by simp, by omega, rfl, hE.symm⟩, by dsimp only; omega⟩
  · have hy2 : y = H := by omega
    subst hy2; exact good
theorem okBond {n : Int} {R : Int → List (Int × Int) → Int → Prop} (bad : sizeE 1 [n] 2 n ≠ 0 → R 0 [] (sizeE 1 [n] 2 n)) (good : sizeE 1 [n] 2 n = 0 → R 2 (bondE n.toNat) 0) : Ok137 n R := by
  apply ok137
  unfold T137
  refine okSize (by simp) (ok112_201 bad fun q => ?_)
  have s := size1 q
  have good := good q
  apply ok201
  unfold T201
  refine ⟨fun i a es => ∃ j : Nat, i = j ∧ (j : Int) ≤ n ∧ a = 2 ∧ es = rangeE (fun _ => (0, 1)) j, fun i _ _ => (n - i).toNat, ⟨0, rfl, by omega, rfl, rfl⟩, ?_⟩
  rintro _ _ _ ⟨j, rfl, hj, rfl, rfl⟩
  refine cnd_dec (fun hlt => okTo' (by rw [rangeE_len]; omega) ?_) fun hlt => ?_
  · rw [wr (by omega) (by omega)]
    exact ⟨⟨j + 1, by simp, by omega, rfl, (rangeE_succ _ j).symm⟩, by dsimp only; omega⟩
  · have hj2 : j = n.toNat := by omega
    subst hj2; exact good
end Go.Proofs.Ytmcloipjlihhlaa.N
