/- TutteAll. Conditions: none. -/
import Derived.Test.YtmcloipjlihhlaaNBegun
namespace Go.Proofs.Ytmcloipjlihhlaa.N
open Go.X Go.Proofs.Ytmcloipjlihhlaa
set_option maxRecDepth 100000

theorem roundsR_len (g : Int) (es : Es) (at' : Spots) (held : List Bool) (k : Int) : (roundsR g es at' held k).1.length ≤ at'.length := by
  unfold roundsR
  split
  · simp
  · split
    · simp
    · simp [roundsI_len]
theorem snapR_len (at' : Spots) (sc : Nat) : (snapR at' sc).1.length ≤ 1024 := by
  unfold snapR
  split
  · simp
  · split
    · simp
    · simp; omega
theorem okAll {g k scale : Int} {es : Es} {us : List Int} {held : List Bool} {R : Bool → Prop} (h : R true) : Ok6 g es us held k scale R := by
  apply ok6
  unfold T6
  refine okBegun (cnd_not (fun q => absurd q (by decide)) fun _ => ⟨us.length ≤ 600, okMayR (cnd_b (fun hm => cnd_dec (fun _ => h) fun h1 => cnd_dec (fun _ => h) fun h2 => cnd_dec (fun _ => h) fun h3 => cnd_dec (fun _ => h) fun h4 => cnd_dec (fun h5 => cnd_dec (fun _ => h) fun _ => ?_) fun h5 => ?_) fun hm => cnd_dec (fun _ => h) fun h3 => cnd_dec (fun _ => h) fun h4 => cnd_dec (fun h5 => cnd_dec (fun _ => h) fun _ => ?_) fun h5 => ?_), fun hu => ?_⟩)
  · omega
  · omega
  · omega
  · omega
  have hla : (spotsOf us).length ≤ 300 := by rw [spotsOf, spotsM_len]; omega
  refine okSpots (by omega) ?_
  generalize spotsOf us = at' at *
  refine ⟨by omega, by omega, by omega, by omega, callE_of (frombits_ext _) ⟨_, rfl, fun t => 0 ≤ t ∧ t ≤ 2, fun t => (2 - t).toNat, ⟨by omega, by omega⟩, ?_⟩⟩
  rintro t ⟨t0, t2⟩
  rw [wr (x := (at'.length : Int) + 1) (by omega) (by omega)]
  have e1 : (([] : Spots) ++ at' ++ [((4619567317775286272 : Nat), (0 : Nat))]).take (Int.toNat (at'.length : Int)) = at' := by simp
  rw [e1]
  refine cnd_dec (fun hlt => okRounds (okRoundsR (by omega) (okSnap (okSnapR ?_)))) fun _ => h
  have hl := roundsR_len g es at' held k
  have hs := snapR_len at' scale.toNat
  generalize roundsR g es at' held k = p at *
  generalize snapR at' scale.toNat = q at *
  refine ⟨False, cnd_ne (fun z => absurd rfl z) fun _ => okEq (by omega) ?_, False.elim⟩
  refine cnd_not (fun z => absurd z (by simp)) fun _ => cnd_ne (fun z => absurd rfl z) fun _ => cnd_ne (fun z => absurd rfl z) fun _ => okEq (by omega) ?_
  refine cnd_not (fun z => absurd z (by simp)) fun _ => ⟨by omega, by omega, by omega, by omega, fun x hx => ?_⟩
  have e2 : x = ((4619567317775286272 : Nat), (0 : Nat)) := by
    have e3 : ((at'.length : Int) + 1).toNat = at'.length + 1 := by omega
    rw [e3, List.take_of_length_le (by simp)] at hx
    simp at hx
    exact hx.symm
  subst e2
  refine cnd_b (fun z => absurd z (by decide)) fun _ => ⟨fun n => ∃ j : Nat, n = j ∧ j ≤ q.1.length, fun n => ((q.1.length : Int) - n).toNat, ⟨0, rfl, by omega⟩, ?_⟩
  rintro _ ⟨j, rfl, hj⟩
  refine cnd_dec (fun hlt => ⟨by omega, hlt, fun x hx => ⟨by omega, hlt, fun y hy => ?_⟩⟩) fun hlt => ?_
  · rw [hx] at hy
    obtain rfl := Option.some.inj hy
    rw [wr (by omega) (by omega)]
    exact cnd_not (fun z => absurd z (by simp)) fun _ => ⟨⟨j + 1, by simp, by omega⟩, by dsimp only; omega⟩
  · refine okMoved (by omega) (okMovedR (by omega) (cnd_ne (fun z => absurd rfl z) fun _ => okBits (cnd_not (fun z => absurd z (by simp)) fun _ => ?_)))
    refine ⟨fun n _ => ∃ j : Nat, n = j ∧ j ≤ p.1.length, fun n _ => ((p.1.length : Int) - n).toNat, ⟨0, rfl, by omega⟩, ?_⟩
    rintro _ x ⟨i, rfl, hi⟩
    refine cnd_dec (fun hlt => ?_) fun hlt => ?_
    · rw [wr (by omega) (by omega)]
      exact ⟨by omega, hlt, ⟨i + 1, by simp, by omega⟩, by dsimp only; omega⟩
    · rw [wr (by omega) (by omega)]
      exact ⟨⟨by omega, by omega⟩, by dsimp only; omega⟩
end Go.Proofs.Ytmcloipjlihhlaa.N
namespace Go.Proofs.Ytmcloipjlihhlaa
open Go.X in
theorem TutteAll_ok {g k scale : Int} {es : List (Int × Int)} {us : List Int} {held : List Bool} {h : Heap} {a0 a1 a2 : Option Addr} {l0 l1 l2 c0 c1 c2 : Nat} (hp : Hp h [Ck.vw eP a0 l0 c0 es, Ck.vw (eK .u64) a1 l1 c1 us, Ck.vw eB a2 l2 c2 held]) :
    CallsH Try.prog 6 #[.agg #[.int .i64 g, .slice a0 l0 c0], .slice a1 l1 c1, .slice a2 l2 c2, .int .i64 k, .int .u64 scale] h fun v h' => Fr [] h h' ∧ v = .bool true :=
  (N.okAll (R := fun b => b = true) rfl h _ _ _ _ _ _ _ _ _ hp).mono fun _ _ ⟨_, Y, e, q⟩ => ⟨Y.fr, q ▸ e⟩
end Go.Proofs.Ytmcloipjlihhlaa
