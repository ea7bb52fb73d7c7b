/- Package maker: nets made by function values. Conditions: none. -/
import Derived.Test.YtmcloipjlihhlaaSMade
import Derived.Test.YtmcloipjlihhlaaTMade
import Derived.Test.YtmcloipjlihhlaaNNet
namespace Go.Proofs.Ytmcloipjlihhlaa.N
open Go.X Go.Proofs.Ytmcloipjlihhlaa
set_option maxRecDepth 100000

/-- What a function value does with the net that is being made. -/
def Mk (f : FuncId) (caps : List Ck) (ps : List Value) (n : Int) (R : Int → List (Int × Int) → Int → Prop) : Prop :=
  ∀ (h1 : Heap) (b : Nat), Hp h1 (Ck.ob b 229 [.int .i64 n, .slice none 0 0] :: Ck.sl eP 35 none 0 0 [] :: caps) → CallsH Try.prog f (List.toArray ([.pointer (some ⟨b, 0, none⟩)] ++ ps)) h1 fun v h' =>
      ∃ (A : Option Addr) (L C : Nat) (es : List (Int × Int)) (k : Int), Sy h1 (owns [Ck.ob b 229 [.int .i64 n, .slice none 0 0], Ck.sl eP 35 none 0 0 []]) h' [Ck.ob b 229 [.int .i64 k, .slice A L C], Ck.sl eP 35 A L C es] ∧ v = .tuple #[] ∧ R k es 0
theorem madeA {ev n : Int} {f : FuncId} {h : Heap} {b1 o1 : Nat} {v1 : List Value} {ps : List Value} {R : Int → List (Int × Int) → Int → Prop} (H : Hp h [Ck.vob b1 o1 v1]) (bad : ev ≠ 0 → R 0 [] ev) (ok : ev = 0 → Mk f [Ck.vob b1 o1 v1] ps n R) :
    S112 ev n f ps h fun v h' => ∃ (k : Int) (A : Option Addr) (L C : Nat) (es : List (Int × Int)) (rb : Int), Sy h [] h' [Ck.sl eP 35 A L C es] ∧ v = .tuple #[.agg #[.int .i64 k, .slice A L C], .int .i64 rb] ∧ R k es rb := by
  have Y : Sy h [] h [Ck.vob b1 o1 v1] := Sy.startM H rfl
  unfold S112
  intro hv
  have Y : Sy _ _ hv [_, _] := Y.junk _
  clear_value hv
  refine cnd_ne (fun he => ?_) fun he => ?_
  · have Y : Sy _ _ _ [_, _, _] := ((Y.stJ 1 rfl 0 (.int .i64 0)).stJ 1 rfl (0 + 1) (.slice none 0 0)).nilS eP 35
    exact ⟨_, _, _, _, _, _, Y.pick [2] rfl, rfl, bad he⟩
  · intro hv3
    have Y : Sy _ _ hv3 [_, _, _] := Y.newO (ty := 229) [.int .i64 n, .slice none 0 0]
    clear_value hv3
    have Y : Sy _ _ hv3 [_, _, _, _] := Y.nilS eP 35
    refine callX_sy (ok he hv3 hv.size (Y.pick [2, 3, 0] rfl).hp) (fun _ _ ⟨_, _, _, _, _, p, _⟩ => p.fr) (allc (fun hm => ?_) alln) ?_
    · exact Y.ne 1 2 (by decide) rfl rfl (x := h.size) (y := hv.size) (by simp [Ck.junk]) (by simp [Ck.ob]) (by simpa [owns, Ck.ob, Ck.sl, blkOf] using hm)
    · rintro v hv4 ⟨A, L, C, es, k, PP, rfl, T⟩
      have Y : Sy _ _ hv4 [_, _, _, _] := Y.call2 [2, 3, 0, 1] rfl (A := [_, _]) rfl rfl PP ⟨rfl, ⟨rfl, trivial⟩⟩
      refine ⟨rfl, k, Y.cellO 0 rfl 0 rfl, A, L, C, Y.cellO 0 rfl 1 rfl, ?_⟩
      have Y : Sy _ _ _ [_, _, _, _] := (Y.stJ 3 rfl 0 (.int .i64 k)).stJ 3 rfl (0 + 1) (.slice A L C)
      exact ⟨_, _, _, _, _, _, Y.pick [1] rfl, rfl, T⟩
theorem madeB {ev n : Int} {f : FuncId} {h : Heap} {b1 o1 b2 o2 : Nat} {v1 v2 : List Value} {ps : List Value} {R : Int → List (Int × Int) → Int → Prop} (H : Hp h [Ck.vob b1 o1 v1, Ck.vob b2 o2 v2]) (bad : ev ≠ 0 → R 0 [] ev) (ok : ev = 0 → Mk f [Ck.vob b1 o1 v1, Ck.vob b2 o2 v2] ps n R) :
    S112 ev n f ps h fun v h' => ∃ (k : Int) (A : Option Addr) (L C : Nat) (es : List (Int × Int)) (rb : Int), Sy h [] h' [Ck.sl eP 35 A L C es] ∧ v = .tuple #[.agg #[.int .i64 k, .slice A L C], .int .i64 rb] ∧ R k es rb := by
  have Y : Sy h [] h [Ck.vob b1 o1 v1, Ck.vob b2 o2 v2] := Sy.startM H rfl
  unfold S112
  intro hv
  have Y : Sy _ _ hv [_, _, _] := Y.junk _
  clear_value hv
  refine cnd_ne (fun he => ?_) fun he => ?_
  · have Y : Sy _ _ _ [_, _, _, _] := ((Y.stJ 2 rfl 0 (.int .i64 0)).stJ 2 rfl (0 + 1) (.slice none 0 0)).nilS eP 35
    exact ⟨_, _, _, _, _, _, Y.pick [3] rfl, rfl, bad he⟩
  · intro hv3
    have Y : Sy _ _ hv3 [_, _, _, _] := Y.newO (ty := 229) [.int .i64 n, .slice none 0 0]
    clear_value hv3
    have Y : Sy _ _ hv3 [_, _, _, _, _] := Y.nilS eP 35
    refine callX_sy (ok he hv3 hv.size (Y.pick [3, 4, 0, 1] rfl).hp) (fun _ _ ⟨_, _, _, _, _, p, _⟩ => p.fr) (allc (fun hm => ?_) alln) ?_
    · exact Y.ne 2 3 (by decide) rfl rfl (x := h.size) (y := hv.size) (by simp [Ck.junk]) (by simp [Ck.ob]) (by simpa [owns, Ck.ob, Ck.sl, blkOf] using hm)
    · rintro v hv4 ⟨A, L, C, es, k, PP, rfl, T⟩
      have Y : Sy _ _ hv4 [_, _, _, _, _] := Y.call2 [3, 4, 0, 1, 2] rfl (A := [_, _]) rfl rfl PP ⟨rfl, ⟨rfl, trivial⟩⟩
      refine ⟨rfl, k, Y.cellO 0 rfl 0 rfl, A, L, C, Y.cellO 0 rfl 1 rfl, ?_⟩
      have Y : Sy _ _ _ [_, _, _, _, _] := (Y.stJ 4 rfl 0 (.int .i64 k)).stJ 4 rfl (0 + 1) (.slice A L C)
      exact ⟨_, _, _, _, _, _, Y.pick [1] rfl, rfl, T⟩
section
variable {ev n c d e : Int} {R : Int → List (Int × Int) → Int → Prop}
theorem ok112_123 (bad : ev ≠ 0 → R 0 [] ev) (ok : ev = 0 → Ok123 n [] c fun k es => R k es 0) : Ok112_123 ev n c R := fun _ cB cO hp => calls112_123 _ _ _ (madeA hp bad fun z h1 b q => ok z h1 b none 0 0 cB cO q)
theorem ok112_125 (bad : ev ≠ 0 → R 0 [] ev) (ok : ev = 0 → Ok125 n [] c d fun k es => R k es 0) : Ok112_125 ev n c d R := fun _ cB cO dB dO hp => calls112_125 _ _ _ _ (madeB hp bad fun z h1 b q => ok z h1 b none 0 0 cB cO dB dO q)
end

def sizeE (least : Int) (l : List Int) (n m : Int) : Int :=
  if l.any (fun x => decide (x < least)) then 1 else if l.any (fun x => decide (x > 3072)) then 3 else if n > 1024 then 3 else if m > 3072 then 3 else 0
theorem okSize {least n m : Int} {l : List Int} {R : Int → Prop} (hl : l.length ≤ 1000000) (h : R (sizeE least l n m)) : Ok113 least l n m R := by
  apply ok113
  unfold T113
  refine ⟨fun i => ∃ k : Nat, i = k ∧ k ≤ l.length ∧ ∀ x ∈ l.take k, ¬ x < least, fun i => ((l.length : Int) - i).toNat, ⟨0, rfl, by omega, by simp⟩, ?_⟩
  rintro _ ⟨k, rfl, hk, ha⟩
  refine cnd_dec (fun hlt => ⟨by omega, hlt, fun x hx => ?_⟩) fun hlt => ?_
  · rw [Int.toNat_natCast] at hx
    refine cnd_dec (fun q => ?_) fun q => ?_
    · have : l.any (fun x => decide (x < least)) = true := List.any_eq_true.2 ⟨x, List.mem_of_getElem? hx, by simpa using q⟩
      simpa [sizeE, this] using h
    · rw [wr (by omega) (by omega)]
      refine ⟨⟨k + 1, by simp, by omega, ?_⟩, by dsimp only; omega⟩
      rw [List.take_add_one, hx]
      intro y hy
      rcases List.mem_append.1 hy with hy | hy
      · exact ha y hy
      · simp at hy; subst hy; exact q
  · have hke : k = l.length := by omega
    subst hke
    rw [List.take_length] at ha
    have h1 : l.any (fun x => decide (x < least)) = false := by
      rw [List.any_eq_false]; intro x hx; simpa using ha x hx
    refine ⟨fun i => ∃ k : Nat, i = k ∧ k ≤ l.length ∧ ∀ x ∈ l.take k, ¬ x > 3072, fun i => ((l.length : Int) - i).toNat, ⟨0, rfl, by omega, by simp⟩, ?_⟩
    rintro _ ⟨k, rfl, hk, ha2⟩
    refine cnd_dec (fun hlt => ⟨by omega, hlt, fun x hx => ?_⟩) fun hlt => ?_
    · rw [Int.toNat_natCast] at hx
      refine cnd_dec (fun q => ?_) fun q => ?_
      · have : l.any (fun x => decide (x > 3072)) = true := List.any_eq_true.2 ⟨x, List.mem_of_getElem? hx, by simpa using q⟩
        have e : sizeE least l n m = 3 := by unfold sizeE; rw [h1, this]; simp
        rwa [e] at h
      · rw [wr (by omega) (by omega)]
        refine ⟨⟨k + 1, by simp, by omega, ?_⟩, by dsimp only; omega⟩
        rw [List.take_add_one, hx]
        intro y hy
        rcases List.mem_append.1 hy with hy | hy
        · exact ha2 y hy
        · simp at hy; subst hy; exact q
    · have hke : k = l.length := by omega
      subst hke
      rw [List.take_length] at ha2
      have h2 : l.any (fun x => decide (x > 3072)) = false := by
        rw [List.any_eq_false]; intro x hx; simpa using ha2 x hx
      have e : sizeE least l n m = if n > 1024 then 3 else if m > 3072 then 3 else 0 := by unfold sizeE; rw [h1, h2]; simp
      rw [e] at h
      refine cnd_dec (fun q => ?_) fun q => cnd_dec (fun q2 => ?_) fun q2 => ?_
      · rwa [if_pos q] at h
      · rwa [if_neg q, if_pos q2] at h
      · rwa [if_neg q, if_neg q2] at h
theorem size1 {least x n m : Int} (h : sizeE least [x] n m = 0) : least ≤ x ∧ x ≤ 3072 ∧ n ≤ 1024 ∧ m ≤ 3072 := by
  unfold sizeE at h
  simp at h
  repeat' split at h
  all_goals omega
theorem size2 {least x y n m : Int} (h : sizeE least [x, y] n m = 0) : (least ≤ x ∧ least ≤ y) ∧ (x ≤ 3072 ∧ y ≤ 3072) ∧ n ≤ 1024 ∧ m ≤ 3072 := by
  unfold sizeE at h
  simp at h
  repeat' split at h
  all_goals omega
theorem okTo' {n : Int} {es : List (Int × Int)} {u v : Int} {R : Int → List (Int × Int) → Prop} (hl : es.length ≤ 1000000000) (h : R n (es ++ [(u, v)])) : Ok117 n es u v R := by
  apply ok117
  unfold T117
  exact ⟨by omega, h⟩
def rangeE (f : Nat → Int × Int) (n : Nat) : List (Int × Int) := (List.range n).map f
theorem rangeE_succ (f : Nat → Int × Int) (n : Nat) : rangeE f (n + 1) = rangeE f n ++ [f n] := by simp [rangeE, List.range_succ]
theorem rangeE_len (f : Nat → Int × Int) (n : Nat) : (rangeE f n).length = n := by simp [rangeE]
def rowsE (f : Nat → List (Int × Int)) : Nat → List (Int × Int)
  | 0 => []
  | k + 1 => rowsE f k ++ f k
def compE (n : Nat) : List (Int × Int) := rowsE (fun i => rangeE (fun k => ((i : Int), (i : Int) + 1 + k)) (n - 1 - i)) n
def twoE (a b : Nat) : List (Int × Int) := rowsE (fun i => rangeE (fun k => ((i : Int), (a : Int) + k)) b) a
theorem rowsE_len {f : Nat → List (Int × Int)} {c : Nat} (h : ∀ i, (f i).length ≤ c) : ∀ n, (rowsE f n).length ≤ n * c
  | 0 => by simp [rowsE]
  | n + 1 => by
    have := rowsE_len h n
    have := h n
    rw [rowsE, List.length_append, Nat.add_mul, Nat.one_mul]; omega
def compM (n : Int) : Int := if n ≤ 3072 then IntKind.i64.wrap (Int.tdiv (IntKind.i64.wrap (n * IntKind.i64.wrap (n - 1))) 2) else 0
theorem okComplete {n : Int} {R : Int → List (Int × Int) → Int → Prop} (bad : sizeE 1 [n] n (compM n) ≠ 0 → R 0 [] (sizeE 1 [n] n (compM n))) (good : sizeE 1 [n] n (compM n) = 0 → R n (compE n.toNat) 0) : Ok33 n R := by
  apply ok33
  unfold T33
  refine ⟨fun m => m = compM n, cnd_dec (fun q => ⟨by decide, ?_⟩) (fun q => ?_), ?_⟩
  · unfold compM; rw [if_pos q]
  · unfold compM; rw [if_neg q]
  rintro _ rfl
  refine okSize (by simp) (ok112_123 bad fun q => ?_)
  have s := size1 q
  have good := good q
  apply ok123
  unfold T123
  have rl : ∀ k, (rowsE (fun i => rangeE (fun k => ((i : Int), (i : Int) + 1 + k)) (n.toNat - 1 - i)) k).length ≤ k * 3072 := rowsE_len fun i => by rw [rangeE_len]; omega
  refine ⟨fun i a es => ∃ j : Nat, i = j ∧ (j : Int) ≤ n ∧ n = a ∧ es = rowsE (fun i => rangeE (fun k => ((i : Int), (i : Int) + 1 + k)) (n.toNat - 1 - i)) j, fun i _ _ => (n - i).toNat, ⟨0, rfl, by omega, rfl, rfl⟩, ?_⟩
  rintro _ _ _ ⟨j, rfl, hj, rfl, rfl⟩
  refine cnd_dec (fun hlt => ?_) fun hlt => ?_
  · rw [wr (x := (j : Int) + 1) (by omega) (by omega)]
    refine ⟨fun k a es => ∃ x : Nat, k = (j : Int) + 1 + x ∧ (x : Int) ≤ n - 1 - j ∧ n = a ∧ es = rowsE (fun i => rangeE (fun k => ((i : Int), (i : Int) + 1 + k)) (n.toNat - 1 - i)) j ++ rangeE (fun k => ((j : Int), (j : Int) + 1 + k)) x, fun k _ _ => (n - k).toNat, ⟨0, by omega, by omega, rfl, by simp [rangeE]⟩, ?_⟩
    rintro _ _ _ ⟨x, rfl, hx, rfl, rfl⟩
    refine cnd_dec (fun hlt2 => okTo' (by have := rl j; rw [List.length_append, rangeE_len]; omega) ?_) fun hlt2 => ?_
    · rw [wr (by omega) (by omega)]
      refine ⟨⟨x + 1, by omega, by omega, rfl, ?_⟩, by dsimp only; omega⟩
      rw [rangeE_succ, List.append_assoc]
    · have hx2 : x = n.toNat - 1 - j := by omega
      subst hx2
      exact ⟨⟨j + 1, by simp, by omega, rfl, rfl⟩, by dsimp only; omega⟩
  · have hj2 : j = n.toNat := by omega
    subst hj2; exact good
def prodM (a b : Int) : Int := if a < 0 ∨ b < 0 ∨ a > 3072 ∨ b > 3072 then 0 else IntKind.i64.wrap (a * b)
theorem okProd {a b : Int} {R : Int → Prop} (h : R (prodM a b)) : Ok124 a b R := by
  apply ok124
  unfold T124
  refine ⟨a < 0 ∨ b < 0 ∨ a > 3072 ∨ b > 3072, cnd_dec (fun q => .inl q) fun q1 => cnd_dec (fun q => .inr (.inl q)) fun q2 => cnd_dec (fun q => .inr (.inr (.inl q))) fun q3 => cnd_dec (fun q => ?_) fun q4 => ?_, fun q => ?_⟩
  · unfold prodM at h; rw [if_pos (.inr (.inr (.inr q)))] at h; exact h
  · unfold prodM at h; rw [if_neg (by omega)] at h; exact h
  · unfold prodM at h; rw [if_pos q] at h; exact h
def twoN (a b : Int) : Int := if a ≤ 3072 ∧ b ≤ 3072 then IntKind.i64.wrap (a + b) else 0
theorem okTwo {a b : Int} {R : Int → List (Int × Int) → Int → Prop} (bad : sizeE 1 [a, b] (twoN a b) (prodM a b) ≠ 0 → R 0 [] (sizeE 1 [a, b] (twoN a b) (prodM a b))) (good : sizeE 1 [a, b] (twoN a b) (prodM a b) = 0 → R (a + b) (twoE a.toNat b.toNat) 0) : Ok34 a b R := by
  apply ok34
  unfold T34
  refine ⟨fun n => n = twoN a b, cnd_dec (fun q1 => ⟨fun n => n = twoN a b, cnd_dec (fun q2 => ?_) (fun q2 => ?_), fun n e => e⟩) (fun q1 => ?_), ?_⟩
  · unfold twoN; rw [if_pos ⟨q1, q2⟩]
  · unfold twoN; rw [if_neg (fun z => q2 z.2)]
  · unfold twoN; rw [if_neg (fun z => q1 z.1)]
  rintro _ rfl
  refine ⟨R, okProd (okSize (by simp) (ok112_125 bad fun q => ?_)), fun _ _ _ z => z⟩
  have s := size2 q
  have good := good q
  have en : twoN a b = a + b := by unfold twoN; rw [if_pos s.2.1, wr (by omega) (by omega)]
  rw [en]
  apply ok125
  unfold T125
  have rl : ∀ k, (rowsE (fun i => rangeE (fun k => ((i : Int), (a.toNat : Int) + k)) b.toNat) k).length ≤ k * 3072 := rowsE_len fun i => by rw [rangeE_len]; omega
  refine ⟨fun i n es => ∃ j : Nat, i = j ∧ (j : Int) ≤ a ∧ n = a + b ∧ es = rowsE (fun i => rangeE (fun k => ((i : Int), (a.toNat : Int) + k)) b.toNat) j, fun i _ _ => (a - i).toNat, ⟨0, rfl, by omega, rfl, rfl⟩, ?_⟩
  rintro _ _ _ ⟨j, rfl, hj, rfl, rfl⟩
  refine cnd_dec (fun hlt => ?_) fun hlt => ?_
  · refine ⟨fun k n es => ∃ x : Nat, k = x ∧ (x : Int) ≤ b ∧ n = a + b ∧ es = rowsE (fun i => rangeE (fun k => ((i : Int), (a.toNat : Int) + k)) b.toNat) j ++ rangeE (fun k => ((j : Int), (a.toNat : Int) + k)) x, fun k _ _ => (b - k).toNat, ⟨0, rfl, by omega, rfl, by simp [rangeE]⟩, ?_⟩
    rintro _ _ _ ⟨x, rfl, hx, rfl, rfl⟩
    refine cnd_dec (fun hlt2 => okTo' (by have := rl j; rw [List.length_append, rangeE_len]; omega) ?_) fun hlt2 => ?_
    · rw [wr (x := a + (x : Int)) (by omega) (by omega), wr (by omega) (by omega)]
      refine ⟨⟨x + 1, by simp, by omega, rfl, ?_⟩, by dsimp only; omega⟩
      rw [rangeE_succ, List.append_assoc, Int.toNat_of_nonneg (by omega)]
    · have hx2 : x = b.toNat := by omega
      subst hx2
      rw [wr (by omega) (by omega)]
      exact ⟨⟨j + 1, by simp, by omega, rfl, rfl⟩, by dsimp only; omega⟩
  · have hj2 : j = a.toNat := by omega
    subst hj2; exact good
end Go.Proofs.Ytmcloipjlihhlaa.N
