/- The document's components. Conditions: none. -/
import Derived.Test.YtmcloipjlihhlaaNSides
namespace Go.Proofs.Ytmcloipjlihhlaa.N
open Go.X Go.Proofs.Ytmcloipjlihhlaa
set_option maxRecDepth 100000

theorem okBlank {n x : Int} {R : List Int → Prop} (h0 : 0 ≤ n) (h1 : n ≤ 1000000) (h : R (List.replicate n.toNat x)) : Ok127 n x R := by
  apply ok127
  unfold T127
  refine ⟨h0, by omega, fun i l => ∃ k : Nat, i = k ∧ k ≤ n.toNat ∧ l = List.replicate k x ++ List.replicate (n.toNat - k) 0, fun i _ => (n - i).toNat, ⟨0, rfl, Nat.zero_le _, by simp⟩, ?_⟩
  rintro _ _ ⟨k, rfl, hk, rfl⟩
  refine cnd_dec (fun hlt => ?_) fun hlt => ?_
  · rw [Int.toNat_natCast, set_take_rep (by omega), wr (by omega) (by omega)]
    exact ⟨by omega, by omega, ⟨k + 1, by simp, by omega, rfl⟩, by dsimp only; omega⟩
  · have : k = n.toNat := by omega
    subst this
    simpa using h
theorem okPartsR {g : Int} {es : Es} {R : List Int → Int → Prop} (m : MayN g es) (h : R (parts g es).1 (parts g es).2) : Ok36 g es [] true [] true R := by
  apply ok36
  unfold T36
  have m0 := m.g0
  have m1 := m.g1
  have m3 := m.m
  refine okBlank m0 (by omega) (okOutsR m ?_)
  have eo : outsM g.toNat es (2 * es.length) = outsA g es := rfl
  rw [eo, List.length_replicate]
  refine ⟨fun n s c => ∃ k : Nat, s = k ∧ k ≤ g.toNat ∧ n = (pK g es k).2 ∧ c = (pK g es k).1, fun _ s _ => (g - s).toNat, ⟨0, rfl, Nat.zero_le _, rfl, rfl⟩, ?_⟩
  rintro _ _ _ ⟨k, rfl, hk, rfl, rfl⟩
  have p := pK_PI es k hk
  have hc := p.cnt
  refine cnd_dec (fun hlt => ⟨fun n c => n = (pK g es (k + 1)).2 ∧ c = (pK g es (k + 1)).1, ⟨¬ 0 ≤ (pK g es k).1.getD k 0, ⟨by omega, by omega, fun y hy => ?_⟩, fun hneg => ?_⟩, ?_⟩) fun hlt => ?_
  · rw [Int.toNat_natCast] at hy
    have hy := getD_of hy
    refine cnd_dec (fun q => ?_) fun q => cnd_not (fun q2 => by cases q2) fun _ => by rw [hy]; exact q
    rw [pK, pStep_old (by omega)]; exact ⟨rfl, rfl⟩
  · have hkg : k < g.toNat := by omega
    generalize hc0 : pK g es k = c0 at *
    have e1 : pK g es (k + 1) = pStep g es k c0 := by rw [pK, hc0]
    rw [e1]
    have hu0 : unl (c0.1.set k c0.2) ≤ g.toNat := by
      unfold unl
      refine Nat.le_trans List.countP_le_length ?_
      rw [List.length_set, p.len]; exact Nat.le_refl _
    refine ⟨by omega, by omega, fun todo c => DI g es k c0.2 c0.1 c todo (fun _ => False) ∧ unl c + todo.length ≤ g.toNat + 1, fun todo c => unl c + todo.length, ⟨DI.start hkg m p hneg, by simpa using hu0⟩, ?_⟩
    rintro todo c ⟨D, hu⟩
    refine cnd_dec (fun q => ?_) fun q => ?_
    · rw [wr (by omega) (by omega)]
      refine ⟨by omega, by omega, fun v hv => ?_⟩
      obtain ⟨td, rfl⟩ := last_of (l := todo) (by omega) (by rw [show todo.length - 1 = ((todo.length : Int) - 1).toNat by omega]; exact hv)
      have hvr := D.td v (by simp)
      have el : ((td ++ [v]).length : Int) - 1 = (td.length : Int) := by simp
      rw [el, Int.toNat_natCast, List.take_left]
      have hl2 : (td ++ [v]).length = td.length + 1 := by simp
      have hrv := D.reach hkg p hvr.1 hvr.2.1 hvr.2.2
      have D2 := D.pop
      rw [hl2] at hu
      refine ⟨by omega, by omega, fun td2 j c2 => ∃ a : Nat, j = a ∧ a ≤ (outV es v).length ∧ DI g es k c0.2 c0.1 c2 td2 (fun e => fromH es e = v ∧ (e : Int) ∉ (outV es v).take a) ∧ unl c2 + td2.length + 1 ≤ unl c + (td.length + 1), fun _ j _ => ((outV es v).length - j).toNat, ⟨0, rfl, Nat.zero_le _, D2.weak fun e _ q => ⟨q, by simp⟩, by omega⟩, ?_⟩
      rintro td2 _ c2 ⟨a, rfl, ha, D3, hu3⟩
      have hol : (outV es v).length ≤ 2 * es.length := outL_len _ _ _
      refine ⟨hvr.1, by rw [outsA_len]; omega, fun ll hll => ?_⟩
      obtain rfl := outsA_get hvr.2.1 hvr.1 hll
      refine cnd_dec (fun q2 => ?_) fun q2 => ?_
      · refine ⟨fun td3 c3 => DI g es k c0.2 c0.1 c3 td3 (fun e => fromH es e = v ∧ (e : Int) ∉ (outV es v).take (a + 1)) ∧ unl c3 + td3.length + 1 ≤ unl c + (td.length + 1), ⟨hvr.1, by rw [outsA_len]; omega, fun ll hll => ?_⟩, ?_⟩
        · obtain rfl := outsA_get hvr.2.1 hvr.1 hll
          refine ⟨by omega, q2, fun x hx => ?_⟩
          rw [Int.toNat_natCast] at hx
          obtain ⟨n, rfl, hn, hf⟩ := outV_mem hvr.1 (List.mem_of_getElem? hx)
          have hw := toH_in m hn
          have wk : ∀ e : Nat, (fromH es e = v ∧ (e : Int) ∉ (outV es v).take a) ∧ e ≠ n → fromH es e = v ∧ (e : Int) ∉ (outV es v).take (a + 1) := fun e ⟨⟨z1, z2⟩, z3⟩ => ⟨z1, fun z => by
            rw [List.take_add_one, hx] at z
            rcases List.mem_append.1 z with z | z
            · exact z2 z
            · have : (e : Int) = n := by simpa using z
              omega⟩
          refine okTo hn (by omega) ⟨¬ 0 ≤ c2.getD (toH es n).toNat 0, ⟨fun b => b = false ∧ ¬ 0 ≤ c2.getD (toH es n).toNat 0, ⟨hw.1, by omega, fun y hy => ?_⟩, ?_⟩, fun hneg2 => ?_⟩
          · have hy := getD_of hy
            refine cnd_dec (fun q3 => ⟨(D3.old (h := n) (by rw [hy]; exact q3)).weak fun e _ z => wk e z, hu3⟩) fun q3 => cnd_not (fun q4 => by cases q4) fun _ => cnd_not (fun q4 => by cases q4) fun _ => by rw [hy]; exact q3
          · rintro b ⟨rfl, z⟩
            exact cnd_b (fun q => by cases q) fun _ => z
          · have hus := unl_set (c := c2) (i := (toH es n).toNat) (x := (c0.2 : Int)) (by rw [D3.len]; omega) (by omega) (by omega)
            refine ⟨hw.1, by omega, by omega, (D3.new m hn (by rw [hf]; exact hrv) hneg2).weak fun e _ z => wk e z, ?_⟩
            rw [List.length_append, List.length_singleton]
            omega
        · rintro td3 c3 ⟨D4, hu4⟩
          rw [wr (by omega) (by omega)]
          exact ⟨⟨a + 1, by simp, by omega, D4, hu4⟩, by dsimp only; omega⟩
      · have : a = (outV es v).length := by omega
        subst this
        rw [List.take_length] at D3
        refine ⟨⟨D3.weak fun e he z => absurd (outV_of he z.1 hvr.1) z.2, by omega⟩, ?_⟩
        dsimp only
        rw [hl2]; omega
    · have : todo = [] := by cases todo with
        | nil => rfl
        | cons a b => simp at q
      subst this
      have e2 := D.fin m hkg p hneg
      rw [e2, wr (by omega) (by omega)]
      exact ⟨by simp, rfl⟩
  · rintro _ _ ⟨rfl, rfl⟩
    rw [wr (by omega) (by omega)]
    exact ⟨⟨k + 1, by simp, by omega, rfl, rfl⟩, by dsimp only; omega⟩
  · have : k = g.toNat := by omega
    subst this
    exact h
end Go.Proofs.Ytmcloipjlihhlaa.N
namespace Go.Proofs.Ytmcloipjlihhlaa
end Go.Proofs.Ytmcloipjlihhlaa
