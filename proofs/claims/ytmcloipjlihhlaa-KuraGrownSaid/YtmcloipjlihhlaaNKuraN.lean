/- Package kura: what is grown of K5 and K3,3 is told as that; law KuraGrown. Conditions: none. -/
import Derived.Test.YtmcloipjlihhlaaNKuraW
import Derived.Test.YtmcloipjlihhlaaTKuraG
set_option linter.unusedSimpArgs false
set_option linter.unusedVariables false
namespace Go.Proofs.Ytmcloipjlihhlaa.N
open Go.X Go.Proofs.Ytmcloipjlihhlaa
set_option maxRecDepth 100000

theorem okCopyK {g : Int} {es : Es} {R : Int → Es → Prop} (hl : es.length ≤ 1000000) (h : R g es) : Ok95 g es R := by
  apply ok95
  unfold T95
  exact ⟨by omega, h⟩
theorem okSplitK {g : Int} {es : Es} {k : Nat} {R : Int → Es → Int → Prop} (m : MayN g es) (hk : k < es.length) (hg : g ≤ 1023) (hl : es.length ≤ 3071) (h : R (g + 1) (splitK g es k) 0) : Ok96 g es k R := by
  apply ok96
  unfold T96
  have g0 := m.g0
  refine cnd_dec (fun q => by omega) fun _ => cnd_dec (fun q => by omega) fun _ => okCopyK (by omega) ⟨by omega, by omega, fun x hx => ⟨by omega, by omega, fun y hy => ⟨by omega, ?_⟩⟩⟩
  rw [Int.toNat_natCast] at hx hy
  have ex : es.getD k (0, 0) = x := by simp [List.getD, hx]
  rw [hx] at hy
  obtain rfl := Option.some.inj hy
  have e : es.set ((k : Nat) : Int).toNat (x.1, g) ++ [(g, x.2)] = splitK g es k := by unfold splitK; rw [ex, Int.toNat_natCast]
  rw [e, wr (by omega) (by omega)]
  exact okMayR (cnd_not (fun q => absurd q (by rw [splitK_may m hk hg hl]; decide)) fun _ => h)
def shiftE (a : Int) (es : Es) : Es := es.map fun x => (x.1 + a, x.2 + a)
theorem may_two {g a : Int} {es fs : Es} (m : MayN g es) (ha : 0 ≤ a) (hg : g + a ≤ 1024) (hl : es.length + fs.length ≤ 3072) (h : ∀ x ∈ fs, (0 ≤ x.1 ∧ x.1 < g + a) ∧ 0 ≤ x.2 ∧ x.2 < g + a) : mayB (g + a) (es ++ fs) = true := by
  have g0 := m.g0
  refine mayB_iff.2 ⟨by omega, by rw [List.length_append]; exact hl, fun e he => ?_⟩
  rcases List.mem_append.1 he with he | he
  · obtain ⟨i, hi⟩ := List.mem_iff_getElem?.1 he
    have := m.e i e hi
    exact endB_iff.2 ⟨⟨this.1.1, by omega⟩, this.2.1, by omega⟩
  · exact endB_iff.2 (h e he)
theorem okJoinK {g b : Int} {es fs : Es} {R : Int → Es → Int → Prop} (m : MayN g es) (n : MayN b fs) (hg : g + b ≤ 1024) (hl : es.length + fs.length ≤ 3072) (h : mayB (g + b) (es ++ shiftE g fs) = true → R (g + b) (es ++ shiftE g fs) 0) : Ok110 g es b fs R := by
  have g0 := m.g0
  have b0 := n.g0
  have h2 : mayB (g + b) (es ++ shiftE g fs) = true := may_two m b0 hg (by simpa [shiftE] using hl) fun x hx => by
    unfold shiftE at hx
    obtain ⟨y, hy, rfl⟩ := List.mem_map.1 hx
    obtain ⟨i, hi⟩ := List.mem_iff_getElem?.1 hy
    have := n.e i y hi
    dsimp only
    omega
  apply ok110
  unfold T110
  refine okCopyK (by omega) ?_
  rw [wr (x := g + b) (by omega) (by omega)]
  refine ⟨fun i c l => ∃ k : Nat, i = k ∧ k ≤ fs.length ∧ c = g + b ∧ l = es ++ shiftE g (fs.take k), fun i _ _ => ((fs.length : Int) - i).toNat, ⟨0, rfl, Nat.zero_le _, rfl, by simp [shiftE]⟩, ?_⟩
  rintro _ _ _ ⟨k, rfl, hk, rfl, rfl⟩
  refine cnd_dec (fun hlt => ⟨by omega, hlt, fun x hx => ⟨by simp [shiftE]; omega, ?_⟩⟩) fun hlt => ?_
  · rw [Int.toNat_natCast] at hx
    have xr := n.e k x hx
    rw [wr (x := x.1 + g) (by omega) (by omega), wr (x := x.2 + g) (by omega) (by omega), wr (x := (k : Int) + 1) (by omega) (by omega)]
    refine ⟨⟨k + 1, by simp, by omega, rfl, ?_⟩, by dsimp only; omega⟩
    unfold shiftE
    rw [List.take_add_one, hx, List.map_append, List.append_assoc]
    rfl
  · rw [List.take_of_length_le (show fs.length ≤ k by omega)]
    exact okMayR (cnd_not (fun q => absurd q (by rw [h2]; decide)) fun q => h q)
structure Seed (nb : Nat) (B : Es) (kind : Int) : Prop where
  n1 : 1 ≤ nb
  n6 : nb ≤ 6
  l1 : 1 ≤ B.length
  l10 : B.length ≤ 10
  m : MayN nb B
  w : ∃ P J, Grown nb B nb B P J
  br : ∀ q ∈ B, (0 ≤ q.1 ∧ q.1 < nb) ∧ 0 ≤ q.2 ∧ q.2 < nb
  ok : ∀ g es sel P J, WebOK nb g es sel B P J → (∃ k b p, k ≠ 0 ∧ Good g es sel k b p) ∧ ∀ k b p, Good g es sel k b p → k = kind ∧ b.length = nb ∧ p.map (shr es b) = B
theorem seed5 : Seed 5 k5 5 := ⟨by decide, by decide, by decide, by decide, mayN k5_may, ⟨_, _, grown_k5⟩, by decide, fun g es sel P J W => ⟨by
  obtain ⟨p, hp⟩ := (web_five W).1
  exact ⟨_, _, _, by decide, hp⟩, (web_five W).2⟩⟩
theorem seed33 : Seed 6 k33 33 := ⟨by decide, by decide, by decide, by decide, mayN k33_may, ⟨_, _, grown_k33⟩, by decide, fun g es sel P J W => ⟨by
  obtain ⟨p, hp⟩ := (web_parted W).1
  exact ⟨_, _, _, by decide, hp⟩, (web_parted W).2⟩⟩
def modE (g : Int) (fs : Es) : Es := fs.map fun x => (Int.tmod x.1 g, Int.tmod x.2 g)
theorem up_len (n : Nat) : ((List.range n).map fun i : Nat => (i : Int)).length = n := by simp
theorem okKuraGrown {five : Bool} {splits : List Int} {more turn : Int} {fs : Es} {R : Bool → Prop} (hu : ∀ x ∈ splits, 0 ≤ x ∧ x ≤ 255) (h : R true) : Ok26 five splits more fs turn R := by
  apply ok26
  unfold T26
  refine okBegun58 (cnd_not (fun q => by cases q) fun _ => ⟨True, okMayR (cnd_not (fun _ => trivial) fun q => cnd_dec (fun _ => trivial) fun hn => cnd_dec (fun _ => trivial) fun he => cnd_dec (fun _ => trivial) fun hs => cnd_dec (fun _ => h) fun ht => okTwo (fun z => absurd (by decide) z) fun _ => ?_), fun _ => h⟩)
  have nm := mayN q
  have n0 := nm.g0
  show ∃ Jv : Int → Int → List (Int × Int) → Int → List (Int × Int) → Prop, _
  refine ⟨fun kind c0 c1 c0' c1' => ∃ nb : Nat, Seed nb c1 kind ∧ c0 = nb ∧ c0' = nb ∧ c1' = c1, cnd_b (fun _ => okComplete (fun z => absurd (by decide) z) fun _ => ⟨5, by exact seed5, rfl, rfl, rfl⟩) fun _ => ⟨6, by exact seed33, rfl, rfl, rfl⟩, ?_⟩
  rintro kind _ _ _ B ⟨nb, sd, rfl, rfl, rfl⟩
  have l1 := sd.l1
  have l10 := sd.l10
  have n1 := sd.n1
  have n6 := sd.n6
  refine ⟨fun i c0 c1 => ∃ k : Nat, i = k ∧ k ≤ splits.length ∧ c0 = nb + k ∧ c1.length = B.length + k ∧ MayN c0 c1 ∧ ∃ P J, Grown nb B c0 c1 P J, fun i _ _ => ((splits.length : Int) - i).toNat, ⟨0, rfl, Nat.zero_le _, by simp, rfl, sd.m, sd.w⟩, ?_⟩
  rintro _ g es ⟨k, rfl, hk, hg, hl, m, P, J, w⟩
  refine cnd_dec (fun hlt => ⟨fun c c2 e => e = 0 ∧ c = nb + (k + 1 : Nat) ∧ c2.length = B.length + (k + 1) ∧ MayN c c2 ∧ ∃ P J, Grown nb B c c2 P J, ⟨by omega, hlt, fun x hx => ⟨by omega, ?_⟩⟩, ?_⟩) fun hlt => ?_
  · have xr := hu x (List.mem_of_getElem? hx)
    rw [wr (by omega) (by omega)]
    have t0 : 0 ≤ Int.tmod x (es.length : Int) := Int.tmod_nonneg _ (by omega)
    have t1 : Int.tmod x (es.length : Int) < (es.length : Int) := Int.tmod_lt_of_pos _ (by omega)
    obtain ⟨n, hn⟩ : ∃ n : Nat, Int.tmod x (es.length : Int) = n := ⟨_, (Int.toNat_of_nonneg t0).symm⟩
    rw [hn] at t1 ⊢
    refine okSplitK m (by omega) (by omega) (by omega) ⟨rfl, by omega, by rw [splitK_len]; omega, mayN (splitK_may m (by omega) (by omega) (by omega)), ?_⟩
    obtain ⟨P', J', w'⟩ := grown_split w (k := n) (by omega)
    exact ⟨P', J', w'⟩
  · rintro c c2 _ ⟨rfl, e1, e2, m', w'⟩
    refine cnd_ne (fun z => absurd rfl z) fun _ => ?_
    rw [wr (by omega) (by omega)]
    exact ⟨⟨k + 1, by simp, by omega, e1, e2, m', w'⟩, by dsimp only; omega⟩
  · have hE : es.length ≤ 70 := by omega
    have hf : fs.length ≤ 60 := by omega
    refine okJoinK m nm (by omega) (by omega) fun qj => cnd_ne (fun z => absurd rfl z) fun _ => ?_
    have sl : (shiftE g fs).length = fs.length := by simp [shiftE]
    refine ⟨fun i c l => ∃ a : Nat, i = a ∧ a ≤ fs.length ∧ c = g + more ∧ l = (es ++ shiftE g fs) ++ modE g (fs.take a), fun i _ _ => ((fs.length : Int) - i).toNat, ⟨0, rfl, Nat.zero_le _, rfl, by simp [modE]⟩, ?_⟩
    rintro _ _ _ ⟨a, rfl, ha, rfl, rfl⟩
    refine cnd_dec (fun hlt2 => ⟨by omega, hlt2, fun x hx => ⟨by omega, by omega, by simp [modE, shiftE]; omega, ?_⟩⟩) fun hlt2 => ?_
    · rw [Int.toNat_natCast] at hx
      rw [wr (by omega) (by omega)]
      refine ⟨⟨a + 1, by simp, by omega, rfl, ?_⟩, by dsimp only; omega⟩
      unfold modE
      rw [List.take_add_one, hx, List.map_append, List.append_assoc]
      rfl
    · rw [List.take_of_length_le (show fs.length ≤ a by omega)]
      have mm := mayN qj
      have qE : mayB (g + more) ((es ++ shiftE g fs) ++ modE g fs) = true := by
        have := may_two (a := 0) (fs := modE g fs) mm (by omega) (by omega) (by simp [modE, shiftE]; omega) fun x hx => by
          unfold modE at hx
          obtain ⟨y, hy, rfl⟩ := List.mem_map.1 hx
          obtain ⟨i, hi⟩ := List.mem_iff_getElem?.1 hy
          have yr := nm.e i y hi
          have a0 := Int.tmod_nonneg g yr.1.1
          have a1 := Int.tmod_lt_of_pos y.1 (show 0 < g by omega)
          have b0 := Int.tmod_nonneg g yr.2.1
          have b1 := Int.tmod_lt_of_pos y.2 (show 0 < g by omega)
          dsimp only
          omega
        rwa [Int.add_zero] at this
      have mE := mayN qE
      refine okUpto (by omega) (by omega) ?_
      rw [Int.toNat_natCast]
      have t0 : 0 ≤ Int.tmod turn (es.length : Int) := Int.tmod_nonneg _ (by omega)
      have t1 : Int.tmod turn (es.length : Int) < (es.length : Int) := Int.tmod_lt_of_pos _ (by omega)
      obtain ⟨t, htt⟩ : ∃ n : Nat, Int.tmod turn (es.length : Int) = n := ⟨_, (Int.toNat_of_nonneg t0).symm⟩
      rw [htt] at t0 t1 ⊢
      rw [Int.toNat_natCast, up_len, List.nil_append]
      have pm : (((List.range es.length).map fun i : Nat => (i : Int)).drop t ++ ((List.range es.length).map fun i : Nat => (i : Int)).take t).Perm ((List.range es.length).map fun n : Nat => (n : Int)) := by
        refine List.perm_append_comm.trans ?_
        rw [List.take_append_drop]
      have W : WebOK nb (g + more) ((es ++ shiftE g fs) ++ modE g fs) _ B P J := grown_web w mE (by omega) (by simp) (fun e he => by
        rw [List.append_assoc, List.getD_eq_getElem?_getD, List.getElem?_append_left he, List.getD_eq_getElem?_getD]) pm sd.br
      have hsl : (((List.range es.length).map fun i : Nat => (i : Int)).drop t ++ ((List.range es.length).map fun i : Nat => (i : Int)).take t).length ≤ 1000000 := by
        rw [pm.length_eq, up_len]; omega
      generalize ((List.range es.length).map fun i : Nat => (i : Int)).drop t ++ ((List.range es.length).map fun i : Nat => (i : Int)).take t = sel at *
      obtain ⟨⟨k0, b0, p0, hk0, y0⟩, U⟩ := sd.ok _ _ _ _ _ W
      refine ⟨by omega, by omega, by omega, by omega, by omega, by omega, by omega, okKindK hsl (fun z => by rw [qE] at z; cases z) (fun _ z => absurd W.c z) (fun _ _ z => absurd ⟨_, _, _, y0⟩ z) fun _ _ k1 b1 p1 y1 => ?_⟩
      refine okShrink hsl qE W.c hk0 y0 fun k2 b2 p2 y2 => ?_
      have u1 := (U _ _ _ y1).1
      have u2 := U _ _ _ y2
      have hlen : p2.length = B.length := by have := congrArg List.length u2.2.2; simpa using this
      refine ⟨False, cnd_ne (fun z => absurd u1 z) fun _ => cnd_ne (fun z => absurd rfl z) fun _ => cnd_ne (fun z => absurd rfl z) fun _ => cnd_ne (fun z => absurd (by rw [u2.2.1]) z) fun _ => cnd_ne (fun z => absurd (by rw [u2.2.2]) z) fun _ => ?_, fun z => z.elim⟩
      rw [u2.2.2]
      refine ⟨fun x => ∃ c : Nat, x = c ∧ c ≤ B.length, fun x => ((B.length : Int) - x).toNat, ⟨0, rfl, Nat.zero_le _⟩, ?_⟩
      rintro _ ⟨c, rfl, hc⟩
      refine cnd_dec (fun hlt3 => ⟨by omega, hlt3, fun x hx => ⟨by omega, hlt3, fun y hy => ?_⟩⟩) fun _ => h
      rw [hx] at hy
      obtain rfl := Option.some.inj hy
      refine cnd_not (fun z => by simp at z) fun _ => ?_
      rw [wr (by omega) (by omega)]
      exact ⟨⟨c + 1, by simp, by omega⟩, by dsimp only; omega⟩
end Go.Proofs.Ytmcloipjlihhlaa.N
namespace Go.Proofs.Ytmcloipjlihhlaa
open Go.X in
theorem KuraGrown_ok {five : Bool} {us : List Int} {more turn : Int} {es : List (Int × Int)} {h : Heap} {a0 a1 : Option Addr} {l0 l1 c0 c1 : Nat} (hr : ∀ x ∈ us, 0 ≤ x ∧ x ≤ 255) (hp : Hp h [Ck.vw (eK .u8) a0 l0 c0 us, Ck.vw eP a1 l1 c1 es]) :
    CallsH Try.prog 26 #[.bool five, .slice a0 l0 c0, .agg #[.int .i64 more, .slice a1 l1 c1], .int .i64 turn] h fun v h' => Fr [] h h' ∧ v = .bool true :=
  (N.okKuraGrown (R := fun b => b = true) hr rfl h _ _ _ _ _ _ hp).mono fun _ _ ⟨_, Y, e, q⟩ => ⟨Y.fr, q ▸ e⟩
end Go.Proofs.Ytmcloipjlihhlaa
