/- Grids. Conditions: none. -/
import Derived.Test.YtmcloipjlihhlaaUMaker2
namespace Go.Proofs.Ytmcloipjlihhlaa
open Go.X

def productF (a b : Int) : Int := if a < 0 ∨ b < 0 ∨ a > 3072 ∨ b > 3072 then 0 else a * b
theorem mul_lim {a b : Int} {A B : Int} (ha : 0 ≤ a) (hb : 0 ≤ b) (ha' : a ≤ A) (hb' : b ≤ B) : 0 ≤ a * b ∧ a * b ≤ A * B :=
  ⟨Int.mul_nonneg ha hb, Int.mul_le_mul ha' hb' hb (by omega)⟩

theorem product_ok (a b : Int) (h : Heap) : CallsH Try.prog 124 #[.int .i64 a, .int .i64 b] h fun v h' => Fr [] h h' ∧ h' = h ∧ v = .int .i64 (productF a b) := by
  apply calls124
  have key : ∀ z, z = productF a b → Fr [] h h ∧ h = h ∧ Value.int .i64 z = .int .i64 (productF a b) := fun z hz => ⟨Fr.refl _ _, rfl, by rw [hz]⟩
  refine cnd_dec (fun h1 => key _ (by simp [productF, h1])) fun h1 => cnd_dec (fun h2 => key _ (by simp [productF, h2])) fun h2 =>
    cnd_dec (fun h3 => key _ (by simp [productF, h3])) fun h3 => cnd_dec (fun h4 => key _ (by simp [productF, h4])) fun h4 => key _ ?_
  have := mul_lim (a := a) (b := b) (A := 3072) (B := 3072) (by omega) (by omega) (by omega) (by omega)
  rw [wr (by omega) (by omega), productF, if_neg (by omega)]

def cellE (w g : Int) (y x : Nat) : List (Int × Int) :=
  (if (x : Int) + 1 < w then [((y : Int) * w + x, (y : Int) * w + x + 1)] else []) ++ (if (y : Int) + 1 < g then [((y : Int) * w + x, (y : Int) * w + x + w)] else [])
theorem cellE_len (w g : Int) (y x : Nat) : (cellE w g y x).length ≤ 2 := by
  simp only [cellE, List.length_append]
  split <;> split <;> simp
def gridE (w g : Int) : List (Int × Int) := rowsE (fun y => rowsE (cellE w g y) w.toNat) g.toNat

theorem clos126 {h : Heap} {b : Nat} {N w g : Int} {wb gb : Nat} (d : Dr h b none 0 N []) (hw : hcell h wb 0 = some (.int .i64 w)) (hg : hcell h gb 0 = some (.int .i64 g)) (hwb : wb ≠ b) (hgb : gb ≠ b)
    (w1 : 1 ≤ w) (w2 : w ≤ 1024) (g1 : 1 ≤ g) (g2 : g ≤ 1024) :
    CallsH Try.prog 126 #[.pointer (some ⟨b, 0, none⟩), .pointer (some ⟨gb, 0, none⟩), .pointer (some ⟨wb, 0, none⟩)] h fun r h' => r = .tuple #[] ∧ Drawn h b none N (gridE w g) h' := by
  apply calls126
  have row : ∀ y x, (rowsE (cellE w g y) x).length ≤ x * 2 := fun y x => rowsE_len (fun i => cellE_len w g y i) x
  refine ⟨gb, 0, rfl, g, hg, fun l h' => ∃ i : Nat, l = [.int .i64 i] ∧ (i : Int) ≤ g ∧ Drawn h b none N (rowsE (fun y => rowsE (cellE w g y) w.toNat) i) h', mI g, ⟨0, rfl, by omega, by simpa [rowsE] using Drawn.start d⟩, ?_⟩
  rintro y h1 ⟨y, e, hi, D⟩
  simp at e; subst e
  have L1 := rowsE_len (f := fun y => rowsE (cellE w g y) w.toNat) (B := 2048) (fun i => by have := row i w.toNat; omega) y
  have ay : IntKind.i64.wrap ((y : Int) + 1) = ((y + 1 : Nat) : Int) := by rw [wr (by omega) (by omega)]; simp
  refine cnd_dec (fun hlt => ?_) fun hlt => ?_
  · have C : ∀ {es h2 nb v}, Drawn h b none N es h2 → hcell h nb 0 = some v → nb ≠ b → hcell h2 nb 0 = some v := fun D hc hn => D.1.cell hc (by simpa [blkOf] using hn)
    refine ⟨wb, 0, rfl, w, C D hw hwb, fun l h' => ∃ k : Nat, l = [.int .i64 k] ∧ (k : Int) ≤ w ∧ Drawn h b none N (rowsE (fun y => rowsE (cellE w g y) w.toNat) y ++ rowsE (cellE w g y) k) h', mI w, ⟨0, rfl, by omega, by simpa [rowsE] using D⟩, ?_⟩
    rintro x h2 ⟨x, e, hk, D2⟩
    simp at e; subst e
    have L2 := row y x
    have P := mul_lim (a := (y : Int)) (b := w) (A := 1024) (B := 1024) (by omega) (by omega) (by omega) (by omega)
    have a1 : IntKind.i64.wrap ((y : Int) * w) = y * w := wr (by omega) (by omega)
    have a2 : IntKind.i64.wrap ((y : Int) * w + x) = y * w + x := wr (by omega) (by omega)
    have a3 : IntKind.i64.wrap ((y : Int) * w + x + 1) = y * w + x + 1 := wr (by omega) (by omega)
    have a4 : IntKind.i64.wrap ((y : Int) * w + x + w) = y * w + x + w := wr (by omega) (by omega)
    have ax : IntKind.i64.wrap ((x : Int) + 1) = ((x + 1 : Nat) : Int) := by rw [wr (by omega) (by omega)]; simp
    refine cnd_dec (fun hlt2 => ?_) fun hlt2 => ?_
    · refine ⟨wb, 0, rfl, w, C D2 hw hwb, wb, 0, rfl, w, C D2 hw hwb, ?_⟩
      simp only [a1, a2, a3, ax, ay]
      refine ⟨fun l h' => l = [] ∧ Drawn h b none N ((rowsE (fun y => rowsE (cellE w g y) w.toNat) y ++ rowsE (cellE w g y) x) ++ (if (x : Int) + 1 < w then [((y : Int) * w + x, (y : Int) * w + x + 1)] else [])) h', ?_, ?_⟩
      · refine cnd_dec (fun hc => ?_) fun hc => ?_
        · refine callX_to D2 (by simp only [List.length_append]; omega) rfl rfl (by simp) fun h3 D3 => ⟨rfl, rfl, ?_⟩
          rw [if_pos (by omega)]; exact D3
        · refine ⟨rfl, ?_⟩
          rw [if_neg (by omega), List.append_nil]; exact D2
      rintro h3 ⟨_, D3⟩
      have L3 : (if (x : Int) + 1 < w then [((y : Int) * w + x, (y : Int) * w + x + 1)] else []).length ≤ 1 := by split <;> simp
      refine ⟨gb, 0, rfl, g, C D3 hg hgb, fun l h' => l = [] ∧ Drawn h b none N ((rowsE (fun y => rowsE (cellE w g y) w.toNat) y ++ rowsE (cellE w g y) x) ++ cellE w g y x) h', ?_, ?_⟩
      · refine cnd_dec (fun hc => ?_) fun hc => ?_
        · refine ⟨wb, 0, rfl, w, C D3 hw hwb, ?_⟩
          rw [a4]
          refine callX_to D3 (by simp only [List.length_append]; omega) rfl rfl (by simp) fun h4 D4 => ⟨rfl, rfl, ?_⟩
          rw [cellE, if_pos (show (y : Int) + 1 < g by omega), ← List.append_assoc]; exact D4
        · refine ⟨rfl, ?_⟩
          rw [cellE, if_neg (show ¬ (y : Int) + 1 < g by omega), List.append_nil]; exact D3
      rintro h4 ⟨_, D4⟩
      refine ⟨⟨x + 1, rfl, by omega, ?_⟩, ?_⟩
      · rw [rowsE_succ, ← List.append_assoc]; exact D4
      · simp only [mI]; omega
    · rw [ay]
      refine ⟨⟨y + 1, rfl, by omega, ?_⟩, by simp only [mI]; omega⟩
      have : w.toNat = x := by omega
      rw [rowsE_succ]; simp only [this] at D2 ⊢; exact D2
  · have : g.toNat = y := by omega
    exact ⟨rfl, by rw [gridE, this]; exact D⟩

def gridK (w g : Int) : Int := IntKind.i64.wrap (productF (IntKind.i64.wrap (w - 1)) g + productF w (IntKind.i64.wrap (g - 1)))
def gridM (w g : Int) : NetM := madeM (sizedF 1 [w, g] (productF w g) (gridK w g)) (productF w g) (gridE w g)

theorem grid_lim {w g m : Int} (h : sizedF 1 [w, g] (productF w g) m = 0) : 1 ≤ w ∧ w ≤ 1024 ∧ 1 ≤ g ∧ g ≤ 1024 ∧ productF w g = w * g ∧ w * g ≤ 1024 := by
  obtain ⟨q1, q2, q3⟩ := sizedF_ok h
  have h1 := q1 w (by simp)
  have h2 := q1 g (by simp)
  have h3 : productF w g = w * g := by rw [productF, if_neg (by omega)]
  rw [h3] at q2
  have h4 : w * 1 ≤ w * g := Int.mul_le_mul_of_nonneg_left (by omega) (by omega)
  have h5 : 1 * g ≤ w * g := Int.mul_le_mul_of_nonneg_right (by omega) (by omega)
  exact ⟨by omega, by omega, by omega, by omega, h3, by omega⟩

theorem Grid_ok (w g : Int) (h : Heap) : CallsH Try.prog 35 #[.int .i64 w, .int .i64 g] h fun v h' => Fr [] h h' ∧ NetIs h (gridM w g) v h' := by
  apply calls35
  unfold S35
  intro hv2 hv3 hv4
  have s2 : hv2.size = h.size + 1 := by simp [hv2]
  have s3 : hv3.size = h.size + 2 := by simp [hv3, s2]
  have s4 : hv4.size = h.size + 3 := by simp [hv4, s3]
  have cw : hcell hv4 h.size 0 = some (.int .i64 w) := cellp _ (cellp _ (by simp [hv2, hcell_push_new]))
  have cg : hcell hv4 hv2.size 0 = some (.int .i64 g) := cellp _ (by simp [hv3, hcell_push_new])
  refine ⟨w, cw, g, cg, callX_nil (product_ok w g hv4) ?_⟩
  rintro v h5 f5 ⟨rfl, rfl⟩
  refine ⟨_, rfl, w, cw, g, cg, w, cw, g, cg, callX_nil (product_ok _ g hv4) ?_⟩
  rintro v h5 f5 ⟨rfl, rfl⟩
  refine ⟨_, rfl, Fr.refl _ _, callX_nil (product_ok w _ hv4) ?_⟩
  rintro v h5 f5 ⟨rfl, rfl⟩
  refine ⟨_, rfl, Fr.refl _ _, w, cw, g, cg, ?_⟩
  intro hv8
  have f8 : Fr [] hv4 hv8 := Fr.push _ _
  have s8 : hv8.size = h.size + 4 := by simp [hv8, s4]
  have f0 : Fr [] h hv8 := (((Fr.push h _).pushr _).pushr _).pushr _
  refine callX_nil (sized_ok (l := [w, g]) (two_new w g) (by simp) 1 (productF w g) (gridK w g)) ?_
  rintro v h9 f9 ⟨rfl, rfl⟩
  refine ⟨_, rfl, ?_⟩
  have hm := calls112_126 (ev := sizedF 1 [w, g] (productF w g) (gridK w g)) (n := productF w g) (c0P := some ⟨hv2.size, 0, none⟩) (c1P := some ⟨h.size, 0, none⟩) (made_S (h := hv8) (es := gridE w g) fun he h1 b f1 hb d1 => by
    obtain ⟨q1, q2, q3, q4, q5, q6⟩ := grid_lim he
    exact clos126 d1 (f1.cell (f8.cell cw (by simp)) (by simp)) (f1.cell (f8.cell cg (by simp)) (by simp)) (by omega) (by omega) q1 q2 q3 q4)
  refine callX_nil hm ?_
  intro v h5 f5 x5
  have f05 := f0.trans f5
  obtain ⟨a, c, rfl, o, fr⟩ := x5
  refine ⟨_, _, _, _, _, rfl, ?_⟩
  have hne : ∀ y ∈ blkOf a, y ≠ hv3.size := fun y hy => by have := fr y hy; omega
  refine ⟨(f05.hsetr (.inl (by omega))).hsetr (.inl (by omega)), a, c, rfl, o.blk fun y hy => by rw [hset_ne (hne y hy), hset_ne (hne y hy)], fun y hy => ?_⟩
  have := fr y hy
  exact Nat.le_trans f0.size this

end Go.Proofs.Ytmcloipjlihhlaa
