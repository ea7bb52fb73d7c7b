/- What package maker's makers yield. Conditions: none. -/
import Derived.Test.YtmcloipjlihhlaaUMaker
namespace Go.Proofs.Ytmcloipjlihhlaa
open Go.X

theorem sizedF_ok {least : Int} {l : List Int} {n m : Int} (h : sizedF least l n m = 0) : (∀ k ∈ l, least ≤ k ∧ k ≤ 3072) ∧ n ≤ 1024 ∧ m ≤ 3072 := by
  unfold sizedF at h
  split at h
  · omega
  · rename_i h1
    split at h
    · omega
    · rename_i h2
      simp only [List.any_eq_true, decide_eq_true_eq, not_exists, not_and] at h1 h2
      exact ⟨fun k hk => ⟨by have := h1 k hk; omega, by have := h2 k hk; omega⟩, by omega, by omega⟩

theorem clos120 {h : Heap} {b : Nat} {N n : Int} {nb : Nat} (d : Dr h b none 0 N []) (hc : hcell h nb 0 = some (.int .i64 n)) (hn : 1 ≤ n) (hn' : n ≤ 100000) :
    CallsH Try.prog 120 #[.pointer (some ⟨b, 0, none⟩), .pointer (some ⟨nb, 0, none⟩)] h fun r h' => r = .tuple #[] ∧ Drawn h b none N (cycleE 0 n) h' := by
  apply calls120
  refine ⟨nb, 0, rfl, n, hc, ?_⟩
  refine callX_draw (new := cycleE 0 n) (Drawn.start d) (fun a1 c1 d1 => ?_) (by simp) fun h2 D => ⟨rfl, rfl, by simpa using D⟩
  exact cycle_ok d1 (by omega) (by omega) hn hn' (by simp)

theorem one_new {h : Heap} (n : Int) : Reads (h.push (.cells #[.int .i64 n] 3)) 1 (some ⟨h.size, 0, none⟩) 1 (ints [n]) :=
  (own_new (e := 3) (sz := 1) (n := 1) (xs := ints [n]) rfl (by simp [maxLen])).reads
theorem two_new {h : Heap} (n m : Int) : Reads (h.push (.cells #[.int .i64 n, .int .i64 m] 3)) 1 (some ⟨h.size, 0, none⟩) 2 (ints [n, m]) :=
  (own_new (e := 3) (sz := 1) (n := 2) (xs := ints [n, m]) rfl (by simp [maxLen])).reads

def cycleM (n : Int) : NetM := madeM (sizedF 1 [n] n n) n (cycleE 0 n)

theorem Cycle_ok (n : Int) (h : Heap) : CallsH Try.prog 30 #[.int .i64 n] h fun v h' => Fr [] h h' ∧ NetIs h (cycleM n) v h' := by
  apply calls30
  unfold S30
  intro hv hv2
  have s1 : hv.size = h.size + 1 := by simp [hv]
  have s2 : hv2.size = h.size + 2 := by simp [hv2, s1]
  have c2 : hcell hv2 h.size 0 = some (.int .i64 n) := cellp _ (by simp [hv, hcell_push_new])
  refine ⟨n, c2, n, c2, n, c2, n, c2, ?_⟩
  intro hv3
  have f3 : Fr [] hv2 hv3 := Fr.push _ _
  refine ⟨f3, ?_⟩
  refine callX_nil (sized_ok (l := [n]) (one_new n) (by simp) 1 n n) ?_
  rintro v h4 f4 ⟨rfl, rfl⟩
  refine ⟨_, rfl, f3, ?_⟩
  have f0 : Fr [] h hv3 := ((Fr.push h _).pushr _).pushr _
  have hm := calls112_120 (ev := sizedF 1 [n] n n) (n := n) (c0P := some ⟨h.size, 0, none⟩) (made_S (h := hv3) (es := cycleE 0 n) fun he h1 b f1 hb d1 => by
    obtain ⟨q1, q2, q3⟩ := sizedF_ok he
    have := q1 n (by simp)
    exact clos120 d1 (f1.cell (f3.cell c2 (by simp)) (by simp)) (by omega) (by omega))
  refine callX_nil hm ?_
  intro v h5 f5 x5
  have f05 := f0.trans f5
  obtain ⟨a, c, rfl, o, fr⟩ := x5
  refine ⟨_, _, _, _, _, rfl, f3.trans f5, ?_⟩
  have hne : ∀ y ∈ blkOf a, y ≠ hv.size := fun y hy => by have := fr y hy; have : hv3.size = h.size + 3 := by simp [hv3, s2]
                                                          omega
  refine ⟨(f05.hsetr (.inl (by omega))).hsetr (.inl (by omega)), a, c, rfl, o.blk fun y hy => by rw [hset_ne (hne y hy), hset_ne (hne y hy)], fun y hy => ?_⟩
  have := fr y hy
  exact Nat.le_trans f0.size this

/-- Edges row by row. -/
def rowsE (f : Nat → List (Int × Int)) (n : Nat) : List (Int × Int) := (List.range n).flatMap f
theorem rowsE_succ (f : Nat → List (Int × Int)) (n : Nat) : rowsE f (n + 1) = rowsE f n ++ f n := by simp [rowsE, List.range_succ]
theorem rowsE_len {f : Nat → List (Int × Int)} {B : Nat} (hf : ∀ i, (f i).length ≤ B) : ∀ n, (rowsE f n).length ≤ n * B
  | 0 => by simp [rowsE]
  | n + 1 => by
    rw [rowsE_succ, List.length_append]
    have := rowsE_len hf n
    have := hf n
    rw [Nat.add_mul]; omega

/-- The edges from i to later ones, to k - 1. -/
def fanE (i k : Nat) : List (Int × Int) := (List.range' (i + 1) (k - (i + 1))).map fun (j : Nat) => ((i : Int), (j : Int))
theorem fanE_succ {i k : Nat} (h : i + 1 ≤ k) : fanE i (k + 1) = fanE i k ++ [((i : Int), (k : Int))] := by
  have : k + 1 - (i + 1) = (k - (i + 1)) + 1 := by omega
  simp [fanE, this, List.range'_concat]
  omega
theorem fanE_nil (i : Nat) : fanE i (i + 1) = [] := by simp [fanE]
theorem fanE_len (i k : Nat) : (fanE i k).length ≤ k := by simp [fanE]
def completeE (n : Nat) : List (Int × Int) := rowsE (fun i => fanE i n) n

theorem clos123 {h : Heap} {b : Nat} {N n : Int} {nb : Nat} (d : Dr h b none 0 N []) (hc : hcell h nb 0 = some (.int .i64 n)) (hnb : nb ≠ b) (hn : 1 ≤ n) (hn' : n ≤ 1024) :
    CallsH Try.prog 123 #[.pointer (some ⟨b, 0, none⟩), .pointer (some ⟨nb, 0, none⟩)] h fun r h' => r = .tuple #[] ∧ Drawn h b none N (completeE n.toNat) h' := by
  apply calls123
  refine ⟨nb, 0, rfl, n, hc, fun l h' => ∃ i : Nat, l = [.int .i64 i] ∧ (i : Int) ≤ n ∧ Drawn h b none N (rowsE (fun i => fanE i n.toNat) i) h', mI n, ⟨0, rfl, by omega, by simpa [rowsE] using Drawn.start d⟩, ?_⟩
  rintro x h1 ⟨i, e, hi, D⟩
  simp at e; subst e
  have L1 := rowsE_len (f := fun i => fanE i n.toNat) (B := 1024) (fun i => by have := fanE_len i n.toNat; omega) i
  refine cnd_dec (fun hlt => ?_) fun hlt => ?_
  · refine ⟨fun l h' => ∃ k : Nat, l = [.int .i64 k] ∧ i + 1 ≤ k ∧ (k : Int) ≤ n ∧ Drawn h b none N (rowsE (fun i => fanE i n.toNat) i ++ fanE i k) h', mI n, ⟨i + 1, by rw [wr (by omega) (by omega)]; simp, by omega, by omega, by simpa [fanE_nil] using D⟩, ?_⟩
    rintro x h2 ⟨k, e, hik, hk, D2⟩
    simp at e; subst e
    refine ⟨nb, 0, rfl, n, D2.1.cell hc (by simpa [blkOf] using hnb), cnd_dec (fun hlt => ?_) fun hlt => ?_⟩
    · refine callX_to D2 ?_ rfl rfl (by simp) fun h3 D3 => ⟨rfl, ⟨k + 1, ?_, by omega, by omega, ?_⟩, ?_⟩
      · have := fanE_len i k
        simp only [List.length_append]; omega
      · rw [wr (by omega) (by omega)]; simp
      · rw [fanE_succ hik, ← List.append_assoc]; exact D3
      · rw [wr (by omega) (by omega)]; simp only [mI]; omega
    · have hkn : k = n.toNat := by omega
      refine ⟨⟨i + 1, ?_, by omega, ?_⟩, ?_⟩
      · rw [wr (by omega) (by omega)]; simp
      · rw [rowsE_succ]; subst hkn; exact D2
      · rw [wr (by omega) (by omega)]; simp only [mI]; omega
  · have : n.toNat = i := by omega
    exact ⟨rfl, by rw [completeE, this]; rw [this] at D; exact D⟩

/-- Edges of a complete net, as the program counts them. -/
def completeK (n : Int) : Int := if n ≤ 3072 then IntKind.i64.wrap (Int.tdiv (IntKind.i64.wrap (n * (IntKind.i64.wrap (n - (1 : Int))))) (2 : Int)) else 0
def completeM (n : Int) : NetM := madeM (sizedF 1 [n] n (completeK n)) n (completeE n.toNat)

theorem Complete_ok (n : Int) (h : Heap) : CallsH Try.prog 33 #[.int .i64 n] h fun v h' => Fr [] h h' ∧ NetIs h (completeM n) v h' := by
  apply calls33
  unfold S33
  intro hv hv2
  have s1 : hv.size = h.size + 1 := by simp [hv]
  have s2 : hv2.size = h.size + 2 := by simp [hv2, s1]
  have c2 : hcell hv2 h.size 0 = some (.int .i64 n) := cellp _ (by simp [hv, hcell_push_new])
  refine ⟨n, c2, fun l h' => h' = hv2 ∧ l = [.int .i64 (completeK n)], ⟨fun hd => ⟨n, c2, n, c2, by decide, rfl, ?_⟩, fun hd => ⟨rfl, ?_⟩⟩, ?_⟩
  · rw [completeK, if_pos (by simpa using hd)]
  · rw [completeK, if_neg (by simpa using hd)]
  rintro m h3 ⟨rfl, e⟩
  simp at e; subst e
  refine ⟨n, c2, n, c2, n, c2, ?_⟩
  intro hv3
  have f3 : Fr [] hv2 hv3 := Fr.push _ _
  refine ⟨f3, ?_⟩
  refine callX_nil (sized_ok (l := [n]) (one_new n) (by simp) 1 n (completeK n)) ?_
  rintro v h4 f4 ⟨rfl, rfl⟩
  refine ⟨_, rfl, f3, ?_⟩
  have f0 : Fr [] h hv3 := ((Fr.push h _).pushr _).pushr _
  have s3 : hv3.size = h.size + 3 := by simp [hv3, s2]
  have hm := calls112_123 (ev := sizedF 1 [n] n (completeK n)) (n := n) (c0P := some ⟨h.size, 0, none⟩) (made_S (h := hv3) (es := completeE n.toNat) fun he h1 b f1 hb d1 => by
    obtain ⟨q1, q2, q3⟩ := sizedF_ok he
    have := q1 n (by simp)
    exact clos123 d1 (f1.cell (f3.cell c2 (by simp)) (by simp)) (by omega) (by omega) (by omega))
  refine callX_nil hm ?_
  intro v h5 f5 x5
  have f05 := f0.trans f5
  obtain ⟨a, c, rfl, o, fr⟩ := x5
  refine ⟨_, _, _, _, _, rfl, f3.trans f5, ?_⟩
  have hne : ∀ y ∈ blkOf a, y ≠ hv.size := fun y hy => by have := fr y hy; omega
  refine ⟨(f05.hsetr (.inl (by omega))).hsetr (.inl (by omega)), a, c, rfl, o.blk fun y hy => by rw [hset_ne (hne y hy), hset_ne (hne y hy)], fun y hy => ?_⟩
  have := fr y hy
  exact Nat.le_trans f0.size this

end Go.Proofs.Ytmcloipjlihhlaa
