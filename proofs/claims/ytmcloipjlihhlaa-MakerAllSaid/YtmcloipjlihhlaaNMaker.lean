/- The law of the maker: each kind of net is the document's, each time anew. Conditions: none. -/
import Derived.Test.YtmcloipjlihhlaaNKinds3
set_option linter.unusedSimpArgs false
set_option linter.unusedVariables false
namespace Go.Proofs.Ytmcloipjlihhlaa.N
open Go.X Go.Proofs.Ytmcloipjlihhlaa
set_option maxRecDepth 100000

theorem cnd_ne' {x y : Int} {A B : Prop} (a : x ≠ y → A) (b : x = y → B) : cnd (x != y) A B := by
  by_cases q : x = y
  · rw [show (x != y) = false by simpa using q]; exact cndF.mpr (b q)
  · rw [show (x != y) = true by simpa using q]; exact cndT.mpr (a q)
theorem okBegunK {R : Bool → Prop} (h : R true) : Ok27 R := by
  apply ok27
  unfold T27
  have s1 : sizeE 1 [3] 3 3 = 0 := by decide
  have s2 : sizeE 1 [2, 2] (prodM 2 2) (gridM 2 2) = 0 := by decide
  have s3 : sizeE 1 [79] 79 (compM 79) = 3 := by decide
  refine okCycle (fun q => absurd s1 q) fun _ => okGrid (fun q => absurd s2 q) fun _ => okComplete (fun _ => ?_) fun q => absurd (s3.symm.trans q) (by decide)
  rw [s3]
  have l1 : (ringE 0 (Int.toNat 3)).length = 3 := by decide
  have l2 : (gridE (Int.toNat 2) (Int.toNat 2)).length = 4 := by decide
  rw [l1, l2]
  exact cnd_eq (fun _ => cnd_eq (fun _ => cnd_eq (fun _ => cnd_eq (fun _ => h) fun q => absurd rfl q) fun q => absurd rfl q) fun q => absurd rfl q) fun q => absurd rfl q
theorem okSameE {g : Int} {es : Es} {R : Bool → Prop} (hl : es.length ≤ 1000000) (h : R true) : Ok40 g es g es R := by
  apply ok40
  unfold T40
  refine cnd_ne' (fun q => absurd rfl q) fun _ => cnd_ne' (fun q => absurd rfl q) fun _ => ?_
  refine ⟨fun i => ∃ j : Nat, i = j ∧ j ≤ es.length, fun i => ((es.length : Int) - i).toNat, ⟨0, rfl, Nat.zero_le _⟩, ?_⟩
  rintro _ ⟨j, rfl, hj⟩
  refine cnd_dec (fun hlt => ?_) fun hlt => h
  refine ⟨by omega, by omega, fun x hx => ⟨by omega, by omega, fun y hy => ?_⟩⟩
  obtain rfl : x = y := Option.some.inj (hx.symm.trans hy)
  rw [beq_self_eq_true, beq_self_eq_true, wr (by omega) (by omega)]
  exact cnd_not (fun q => by cases q) fun _ => ⟨⟨j + 1, by simp, by omega⟩, by dsimp only; omega⟩
theorem okSpoilE {g : Int} {es : Es} {R : Prop} (hl : es.length ≤ 1000000) (h : R) : Ok41 g es R := by
  apply ok41
  unfold T41
  intro cap hcap
  apply ok139
  unfold T139
  rw [wr (by omega) (by omega)]
  generalize hr : (if (es.length : Int) + 2000 < ((cap : Nat) : Int) then (es.length : Int) + 2000 else ((cap : Nat) : Int)) = r
  have hr2 : r ≤ es.length + 2000 := by rw [← hr]; split <;> omega
  refine ⟨fun _ l => l.length ≤ es.length + 2000, fun _ l => (r - l.length).toNat, by omega, ?_⟩
  rintro _ l hll
  refine cnd_dec (fun hlt => ⟨by omega, by dsimp only; rw [List.length_append, List.length_singleton]; omega, by dsimp only; rw [List.length_append, List.length_singleton]; omega⟩) fun _ => ?_
  refine ⟨fun i c => ∃ j : Nat, i = j ∧ j ≤ l.length ∧ c.length = l.length, fun i _ => ((l.length : Int) - i).toNat, ⟨0, rfl, Nat.zero_le _, rfl⟩, ?_⟩
  rintro _ c ⟨j, rfl, hj, hc⟩
  refine cnd_dec (fun hlt => ?_) fun _ => h
  rw [wr (by omega) (by omega)]
  exact ⟨by omega, by omega, ⟨j + 1, by simp, by omega, by simpa using hc⟩, by dsimp only; omega⟩

/-! ### One name -/
def NameOk (nm : ByteArray) (a b s : Int) : Prop :=
  ∃ k : K3, k.2.1.length ≤ 1000000 ∧ (∀ R, sayK R k → Ok38 nm a b s R) ∧ ∀ R, sayK R k → Ok39 nm a b s R
theorem pathName (a b s : Int) : NameOk (⟨#[112, 97, 116, 104]⟩ : ByteArray) a b s := by
  refine ⟨kPath a, ?_, fun R h => kindPath h, fun R h => ?_⟩
  · unfold kPath pathE'; split
    · simp
    · split
      · simp
      · dsimp only; rw [rangeE_len]; omega
  · apply ok39; unfold T39
    simp only [cndT, cndF, nm_path_path]
    exact makePath h
theorem cycleName (a b s : Int) : NameOk (⟨#[99, 121, 99, 108, 101]⟩ : ByteArray) a b s := by
  refine ⟨kCycle a, ?_, fun R h => kindCycle h, fun R h => ?_⟩
  · unfold kCycle; split
    · simp
    · split
      · simp
      · dsimp only; rw [ringE_len _ _ (by omega)]; omega
  · apply ok39; unfold T39
    simp only [cndT, cndF, nm_cycle_path, nm_cycle_cycle]
    exact makeCycle h
theorem completeName (a b s : Int) : NameOk (⟨#[99, 111, 109, 112, 108, 101, 116, 101]⟩ : ByteArray) a b s := by
  refine ⟨kComplete a, ?_, fun R h => kindComplete h, fun R h => ?_⟩
  · unfold kComplete; split
    · simp
    · split
      · simp
      · dsimp only; have := compE_le (n := a.toNat) (by omega); omega
  · apply ok39; unfold T39
    simp only [cndT, cndF, nm_complete_path, nm_complete_cycle, nm_complete_complete]
    exact makeComplete h
theorem twoName (a b s : Int) : NameOk (⟨#[116, 119, 111]⟩ : ByteArray) a b s := by
  refine ⟨kTwo a b, ?_, fun R h => kindTwo h, fun R h => ?_⟩
  · unfold kTwo; split
    · simp
    · split
      · simp
      · dsimp only
        have el : ((twoE a.toNat b.toNat).length : Int) = a * b := by
          unfold twoE
          rw [rowsE_const (c := b.toNat) fun i => rangeE_len _ _]
          rw [Int.natCast_mul, Int.toNat_of_nonneg (by omega), Int.toNat_of_nonneg (by omega)]
        omega
  · apply ok39; unfold T39
    simp only [cndT, cndF, nm_two_path, nm_two_cycle, nm_two_complete, nm_two_two]
    exact makeTwo h
theorem gridName (a b s : Int) : NameOk (⟨#[103, 114, 105, 100]⟩ : ByteArray) a b s := by
  refine ⟨kGrid a b, ?_, fun R h => kindGrid h, fun R h => ?_⟩
  · unfold kGrid; split
    · simp
    · split
      · simp
      · dsimp only
        have gl := gridE_len a.toNat b.toNat
        have gl2 : ((b.toNat * (a.toNat * 2) : Nat) : Int) = 2 * (a * b) := by
          rw [Int.natCast_mul, Int.natCast_mul, ← Int.mul_assoc, Int.mul_comm ((b.toNat : Nat) : Int), Int.toNat_of_nonneg (by omega), Int.toNat_of_nonneg (by omega)]; omega
        omega
  · apply ok39; unfold T39
    simp only [cndT, cndF, nm_grid_path, nm_grid_cycle, nm_grid_complete, nm_grid_two, nm_grid_grid]
    exact makeGrid h
theorem wheelName (a b s : Int) : NameOk (⟨#[119, 104, 101, 101, 108]⟩ : ByteArray) a b s := by
  refine ⟨kWheel a, ?_, fun R h => kindWheel h, fun R h => ?_⟩
  · unfold kWheel; split
    · simp
    · split
      · simp
      · dsimp only; unfold wheelE; rw [List.length_append, ringE_len _ _ (by omega), rangeE_len]; omega
  · apply ok39; unfold T39
    simp only [cndT, cndF, nm_wheel_path, nm_wheel_cycle, nm_wheel_complete, nm_wheel_two, nm_wheel_grid, nm_wheel_wheel]
    exact makeWheel h
theorem prismName (a b s : Int) : NameOk (⟨#[112, 114, 105, 115, 109]⟩ : ByteArray) a b s := by
  refine ⟨kPrism a, ?_, fun R h => kindPrism h, fun R h => ?_⟩
  · unfold kPrism; split
    · simp
    · split
      · simp
      · dsimp only; unfold prismE; rw [List.length_append, List.length_append, ringE_len _ _ (by omega), ringE_len _ _ (by omega), rangeE_len]; omega
  · apply ok39; unfold T39
    simp only [cndT, cndF, nm_prism_path, nm_prism_cycle, nm_prism_complete, nm_prism_two, nm_prism_grid, nm_prism_wheel, nm_prism_prism]
    exact makePrism h
theorem bondName (a b s : Int) : NameOk (⟨#[98, 111, 110, 100]⟩ : ByteArray) a b s := by
  refine ⟨kBond a, ?_, fun R h => kindBond h, fun R h => ?_⟩
  · unfold kBond; split
    · simp
    · split
      · simp
      · dsimp only; unfold bondE; rw [rangeE_len]; omega
  · apply ok39; unfold T39
    simp only [cndT, cndF, nm_bond_path, nm_bond_cycle, nm_bond_complete, nm_bond_two, nm_bond_grid, nm_bond_wheel, nm_bond_prism, nm_bond_bond]
    exact makeBond h
theorem randomName (a b s : Int) : NameOk (⟨#[114, 97, 110, 100, 111, 109]⟩ : ByteArray) a b s := by
  refine ⟨kRandom a b s, ?_, fun R h => kindRandom h, fun R h => ?_⟩
  · unfold kRandom; split
    · simp
    · split
      · simp
      · dsimp only; rw [rndE_len]; omega
  · apply ok39; unfold T39
    simp only [cndT, cndF, nm_random_path, nm_random_cycle, nm_random_complete, nm_random_two, nm_random_grid, nm_random_wheel, nm_random_prism, nm_random_bond, nm_random_random]
    exact makeRandom h
theorem stackName (a b s : Int) : NameOk (⟨#[115, 116, 97, 99, 107]⟩ : ByteArray) a b s := by
  refine ⟨kStack a s, ?_, fun R h => kindStack h, fun R h => ?_⟩
  · unfold kStack; split
    · simp
    · split
      · simp
      · dsimp only; have := skLen s (a - 3).toNat; omega
  · apply ok39; unfold T39
    simp only [cndT, cndF, nm_stack_path, nm_stack_cycle, nm_stack_complete, nm_stack_two, nm_stack_grid, nm_stack_wheel, nm_stack_prism, nm_stack_bond, nm_stack_random]
    exact makeStack h
theorem each {α : Type} {P : α → Prop} {x : α} {l : List α} (h0 : P x) (h : ∀ (j : Nat) (y : α), l[j]? = some y → P y) : ∀ (j : Nat) (y : α), (x :: l)[j]? = some y → P y
  | 0, y, e => by rw [List.getElem?_cons_zero] at e; exact Option.some.inj e ▸ h0
  | j + 1, y, e => h j y (by simpa using e)
theorem okMakerAll {a b s : Int} {R : Bool → Prop} (h : R true) : Ok5 a b s R := by
  apply ok5
  unfold T5
  refine okBegunK (cnd_not (fun q => by cases q) fun _ => ?_)
  apply ok37
  unfold T37
  refine ⟨fun i => ∃ j : Nat, i = j ∧ j ≤ 10, fun i => (10 - i).toNat, ⟨0, rfl, by omega⟩, ?_⟩
  rintro _ ⟨j, rfl, hj⟩
  refine cnd_dec (fun hlt => ⟨by omega, by simpa using hlt, fun nm hnm => ?_⟩) fun _ => h
  have hj2 : j < 10 := by have : (j : Int) < 10 := by simpa using hlt
                          omega
  have H : NameOk nm a b s := each (P := fun nm => NameOk nm a b s) (pathName a b s) (each (cycleName a b s) (each (completeName a b s) (each (twoName a b s) (each (gridName a b s) (each (wheelName a b s) (each (prismName a b s) (each (bondName a b s) (each (randomName a b s) (each (stackName a b s) (fun _ _ e => by simp at e)))))))))) _ nm hnm
  obtain ⟨⟨n, es, e⟩, hl, h38, h39⟩ := H
  refine h38 _ ?_
  unfold sayK
  refine ⟨fun t => ∃ i : Nat, t = i ∧ i ≤ 2, fun t => (2 - t).toNat, ⟨0, rfl, by omega⟩, ?_⟩
  rintro _ ⟨i, rfl, hi⟩
  refine cnd_dec (fun hlt2 => h39 _ ?_) fun _ => ?_
  · unfold sayK
    refine cnd_ne' (fun q => absurd rfl q) fun _ => okSameE hl (cnd_not (fun q => by cases q) fun _ => okSpoilE hl ?_)
    rw [wr (by omega) (by omega)]
    exact ⟨⟨i + 1, by simp, by omega⟩, by dsimp only; omega⟩
  · rw [wr (by omega) (by omega)]
    exact ⟨⟨j + 1, by simp, by omega⟩, by dsimp only; omega⟩
end Go.Proofs.Ytmcloipjlihhlaa.N
namespace Go.Proofs.Ytmcloipjlihhlaa
open Go.X in
theorem MakerAll_ok {a b s : Int} {h : Heap} (hp : Hp h []) : CallsH Try.prog 5 #[.int .i64 a, .int .i64 b, .int .u64 s] h fun v h' => Fr [] h h' ∧ v = .bool true :=
  ((N.okMakerAll (R := fun r => r = true) rfl) h hp).mono fun v h' ⟨r, p, e1, e2⟩ => ⟨p.fr, by rw [e1, e2]⟩
end Go.Proofs.Ytmcloipjlihhlaa
