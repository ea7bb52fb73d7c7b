/- The walks are the document's; law WalkAll. Conditions: none. -/
import Derived.Test.YtmcloipjlihhlaaNDepthR
import Derived.Test.YtmcloipjlihhlaaNEach
import Derived.Test.YtmcloipjlihhlaaNTwin
import Derived.Test.YtmcloipjlihhlaaTWalkB
set_option linter.unusedVariables false
set_option linter.unusedSimpArgs false
namespace Go.Proofs.Ytmcloipjlihhlaa.N
open Go.X Go.Proofs.Ytmcloipjlihhlaa
set_option maxRecDepth 100000

theorem okLightA {g : Int} {es : Es} {R : Bool → Prop} (h : es.length ≤ 300 → R true) (h2 : R false) : Ok59 g es R := by
  apply ok59
  unfold T59
  refine cnd_dec (fun q => cnd_dec (fun _ => h (by omega)) fun _ => okMayR ?_) fun _ => h2
  cases mayB g es
  · exact h (by omega)
  · exact h2
theorem okIntsA {a b : List Int} {R : Bool → Prop} (hl : a.length ≤ 1000000) (e : a = b) (h : R true) : Ok68 a b R := by
  subst e
  apply ok68
  unfold T68
  refine cnd_ne (fun q => absurd rfl q) fun _ => ⟨fun i => ∃ k : Nat, i = k ∧ k ≤ a.length, fun i => ((a.length : Int) - i).toNat, ⟨0, rfl, Nat.zero_le _⟩, ?_⟩
  rintro _ ⟨i, rfl, hi⟩
  refine cnd_dec (fun hlt => ⟨by omega, hlt, fun x hx => ⟨by omega, hlt, fun y hy => ?_⟩⟩) fun _ => h
  rw [hx] at hy
  obtain rfl := Option.some.inj hy
  rw [wr (by omega) (by omega)]
  exact cnd_ne (fun q => absurd rfl q) fun _ => ⟨⟨i + 1, by simp, by omega⟩, by dsimp only; omega⟩
theorem okSameT {a b c d : List Int} {R : Bool → Prop} (ha : a.length ≤ 1000000) (hb : b.length ≤ 1000000) (hc : c.length ≤ 1000000) (hd : d.length ≤ 1000000) (h : R true) : Ok86 a b c d a b c d R := by
  apply ok86
  unfold T86
  exact ⟨False, okIntsA ha rfl (cnd_b (fun _ => okIntsA hb rfl (cnd_b (fun _ => okIntsA hc rfl (cnd_b (fun _ => okIntsA hd rfl h) fun q => by cases q)) fun q => by cases q)) fun q => by cases q), fun z => z.elim⟩
theorem okEach87 {g s : Int} {es : Es} {by' low : List Int} {R : Bool → Prop} (h : R true) : Ok87 g es s (breadthR g es s).ord by' (breadthR g es s).far low R :=
  fun _ _ _ _ _ _ _ _ _ _ _ _ _ _ _ _ H => (okEachL H).mono fun _ _ ⟨Y, e⟩ => ⟨true, Y, e, h⟩
/-- Depth first, or nothing. -/
def depthR (g : Int) (es : Es) (s : Int) : BT := if faultyE g es s = 0 then (dfs g es s).t else ⟨[], [], []⟩
def depthL (g : Int) (es : Es) (s : Int) : List Int := if faultyE g es s = 0 then (dfs g es s).low else []
theorem bi_lens {g s : Int} {es : Es} {t : BT} (m : MayN g es) (i : BI g es s t) : t.ord.length ≤ 1000000 ∧ t.by'.length ≤ 1000000 ∧ t.far.length ≤ 1000000 := by
  have := i.len
  have := i.lb
  have := i.lf
  have := m.g1
  omega
theorem breadth_lens (g : Int) (es : Es) (s : Int) : (breadthR g es s).ord.length ≤ 1000000 ∧ (breadthR g es s).by'.length ≤ 1000000 ∧ (breadthR g es s).far.length ≤ 1000000 := by
  unfold breadthR
  split
  · rename_i hf
    obtain ⟨m, h0, h1⟩ := faulty_zero hf
    exact bi_lens m (bfs_BI m h0 h1)
  · exact ⟨by simp, by simp, by simp⟩
theorem depth_lens (g : Int) (es : Es) (s : Int) : (depthR g es s).ord.length ≤ 1000000 ∧ (depthR g es s).by'.length ≤ 1000000 ∧ (depthR g es s).far.length ≤ 1000000 ∧ (depthL g es s).length ≤ 1000000 := by
  unfold depthR depthL
  split
  · rename_i hf
    obtain ⟨m, h0, h1⟩ := faulty_zero hf
    have i := dfs_DV m h0 h1
    obtain ⟨a, b, c⟩ := bi_lens m i.bi
    have := i.ll
    have := m.g1
    exact ⟨a, b, c, by omega⟩
  · exact ⟨by simp, by simp, by simp, by simp⟩
theorem okPartsU {g : Int} {es : Es} {R : List Int → Int → Int → Prop} (h : ∀ c n e, c.length ≤ 1000000 → (mayB g es = false → e = 1 ∧ n = 0 ∧ c = []) → (mayB g es = true → e = 0 ∧ n = (parts g es).2 ∧ c = (parts g es).1) → R c n e) : Ok83 g es R :=
  okParts (fun q => h _ _ _ (by simp) (fun _ => ⟨rfl, rfl, rfl⟩) fun q2 => by rw [q] at q2; cases q2) fun q => h _ _ _ (by have := (parts_PI g es).len; have := (mayN q).g1; omega) (fun q2 => by rw [q] at q2; cases q2) fun _ => ⟨rfl, rfl, rfl⟩
theorem okWalkAll {g s : Int} {es : Es} {R : Bool → Prop} (h : R true) : Ok15 g es s R := by
  apply ok15
  unfold T15
  refine okBegunW (cnd_not (fun q => by cases q) fun _ => okLightA (fun hl => cnd_not (fun q => by cases q) fun _ => ?_) (cnd_not (fun _ => h) fun q => by cases q))
  refine okTwin (by omega) (okMayR ?_)
  refine ⟨fun w => w = faultyE g es s, ?_, ?_⟩
  · unfold faultyE
    refine cnd_not (fun q => by rw [q, if_pos rfl]) fun q => cnd_dec (fun q2 => by rw [q, if_neg (by decide), if_pos (.inl q2)]) fun q2 => ⟨fun w => w = faultyE g es s, ?_, fun w hw => by rw [hw]; rfl⟩
    unfold faultyE
    exact cnd_dec (fun q3 => by rw [q, if_neg (by decide), if_pos (.inr q3)]) fun q3 => by rw [q, if_neg (by decide), if_neg (by omega)]
  rintro _ rfl
  obtain ⟨b1, b2, b3⟩ := breadth_lens g es s
  obtain ⟨d1, d2, d3, d4⟩ := depth_lens g es s
  refine ⟨fun turn y s' => ∃ k : Nat, turn = k ∧ k ≤ 2 ∧ KeptOK y s', fun turn _ _ => (2 - turn).toNat, ⟨0, rfl, by decide, KeptOK.nil⟩, ?_⟩
  rintro _ y s' ⟨k, rfl, hk, K⟩
  refine cnd_dec (fun hlt => okBreadth ?_) fun _ => okApart K fun _ => h
  -- what the program's walk depth first hands back
  have hD : ∀ {R : List Int → List Int → List Int → List Int → Int → Prop}, R (depthR g es s).ord (depthR g es s).by' (depthR g es s).far (depthL g es s) (faultyE g es s) → Ok82 g es s R := fun z => okDepth
    (fun q => by unfold depthR depthL at z; rw [if_neg q, if_neg q] at z; exact z) (fun q => by unfold depthR depthL at z; rw [if_pos q, if_pos q, q] at z; exact z)
  refine hD ?_
  refine okPartsU fun c n e hc hbad hgood => ?_
  refine ⟨fun a0 a1 a2 a3 c0 c1 c2 c3 => a0 = (breadthR g es s).ord ∧ a1 = (breadthR g es s).by' ∧ a2 = (breadthR g es s).far ∧ a3 = [] ∧ c0 = (depthR g es s).ord ∧ c1 = (depthR g es s).by' ∧ c2 = (depthR g es s).far ∧ c3 = depthL g es s, cnd_eq (fun q => ?_) (fun q => ?_), ?_⟩
  · obtain ⟨m, h0, h1⟩ := faulty_zero q
    refine okBreadthR m h0 h1 (okDepthR m h0 h1 ?_)
    unfold breadthR depthR depthL
    rw [if_pos q, if_pos q, if_pos q]
    exact ⟨rfl, rfl, rfl, rfl, rfl, rfl, rfl, rfl⟩
  · unfold breadthR depthR depthL
    rw [if_neg q, if_neg q, if_neg q]
    exact ⟨rfl, rfl, rfl, rfl, rfl, rfl, rfl, rfl⟩
  rintro _ _ _ _ _ _ _ _ ⟨rfl, rfl, rfl, rfl, rfl, rfl, rfl, rfl⟩
  refine ⟨False, cnd_ne (fun z => absurd rfl z) fun _ => cnd_ne (fun z => absurd rfl z) fun _ => okSameT b1 b2 b3 (by simp) (cnd_not (fun z => by cases z) fun _ => okSameT d1 d2 d3 d4 (cnd_not (fun z => by cases z) fun _ => okKept (by omega) (cnd_not (fun z => by cases z) fun _ => ?_))), fun z => z.elim⟩
  refine ⟨True, cnd_not (fun q => ?_) fun _ => trivial, fun _ => ⟨True, cnd_b (fun q => ?_) fun _ => trivial, fun _ => ?_⟩⟩
  · obtain ⟨rfl, rfl, rfl⟩ := hbad q
    exact cnd_ne (fun z => absurd rfl z) fun _ => cnd_ne (fun z => absurd rfl z) fun _ => cnd_ne (fun z => absurd rfl z) fun _ => trivial
  · obtain ⟨rfl, rfl, rfl⟩ := hgood q
    refine okPartsR (mayN q) ⟨False, cnd_ne (fun z => absurd rfl z) fun _ => cnd_ne (fun z => absurd rfl z) fun _ => okIntsA hc rfl (cnd_not (fun z => by cases z) fun _ => trivial), fun z => z.elim⟩
  · refine okKeep K (by simp) (fun x hx => ?_) fun l1 s1 K1 => okEach87 (cnd_not (fun z => by cases z) fun _ => ?_)
    · simp only [List.mem_cons, List.not_mem_nil, or_false] at hx
      rcases hx with rfl | rfl | rfl | rfl | rfl | rfl | rfl | rfl <;> assumption
    · rw [wr (by omega) (by omega)]
      exact ⟨⟨k + 1, by simp, by omega, K1⟩, by dsimp only; omega⟩
end Go.Proofs.Ytmcloipjlihhlaa.N
namespace Go.Proofs.Ytmcloipjlihhlaa
open Go.X in
theorem WalkAll_ok {g s : Int} {es : List (Int × Int)} {h : Heap} {a0 : Option Addr} {l0 c0 : Nat} (hp : Hp h [Ck.vw eP a0 l0 c0 es]) :
    CallsH Try.prog 15 #[.agg #[.int .i64 g, .slice a0 l0 c0], .int .i64 s] h fun v h' => Fr [] h h' ∧ v = .bool true :=
  (N.okWalkAll (R := fun b => b = true) rfl h _ _ _ hp).mono fun _ _ ⟨_, Y, e, q⟩ => ⟨Y.fr, q ▸ e⟩
end Go.Proofs.Ytmcloipjlihhlaa
