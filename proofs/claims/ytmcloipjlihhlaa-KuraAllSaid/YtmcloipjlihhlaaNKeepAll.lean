/- Package tracerylaw3: the lists of a list that are kept. Conditions: none. -/
import Derived.Test.YtmcloipjlihhlaaNKeep
import Derived.Test.YtmcloipjlihhlaaTKuraA
set_option linter.unusedSimpArgs false
set_option linter.unusedVariables false
namespace Go.Proofs.Ytmcloipjlihhlaa.N
open Go.X Go.Proofs.Ytmcloipjlihhlaa
set_option maxRecDepth 100000

theorem okKeepAll {l : List (List Int)} {s : Int} {ls : List (List Int)} {R : List (List Int) → Int → Prop} (K0 : KeptOK l s) (hls : ls.length ≤ 1000000) (hlr : ∀ x ∈ ls, x.length ≤ 1000000) (z : ∀ l' s', KeptOK l' s' → R l' s') : Ok71 l s ls R := by
  intro h bB lA lL lC lH lsA lsL lsC lsH H
  obtain ⟨M, hM⟩ : ∃ M, owns [Ck.ob bB 90 [.slice lA lL lC, .int .i64 s], Ck.rows eI 40 3 lA lL lC lH l, Ck.rows eI 40 3 lsA lsL lsC lsH ls] = M := ⟨_, rfl⟩
  rw [hM]
  have Y : Sy h M h _ := Sy.startM H hM
  have e2 := Y.lenR 2 rfl
  subst e2
  apply calls71
  unfold S71
  have Y : Sy h M h [_, _, _] := Y.turn 2 rfl (To.rowsP (P' := Plt 0) fun q _ => rfl)
  refine ⟨fun lz h' => ∃ (k : Nat) (lA : Option Addr) (lL lC : Nat) (lH : List RowH) (l : List (List Int)) (s : Int), lz = [.int .i64 (k : Int)] ∧ k ≤ ls.length ∧ KeptOK l s ∧ Sy h M h' [Ck.ob bB 90 [.slice lA lL lC, .int .i64 s], Ck.rows eI 40 3 lA lL lC lH l, Ck.rowsG eI (Plt k) 40 3 lsA ls.length lsC lsH ls],
    fun lz _ => (match lz with | [.int _ x] => ((ls.length : Int) - x).toNat | _ => 0), ⟨0, _, _, _, _, _, _, rfl, Nat.zero_le _, K0, Y⟩, ?_⟩
  rintro _ hv ⟨k, lA, lL, lC, lH, l, s, e, hk, K, Yk⟩
  cases e
  have Y := Yk
  refine cnd_dec (fun hlt => ?_) fun hlt => ⟨_, _, _, _, _, _, Y.pick [0, 1] rfl, rfl, z _ _ K⟩
  have hkl : k < ls.length := by omega
  obtain ⟨b, hb, hbo, x, hx, r, hr⟩ := Y.atR 2 rfl (i := (k : Int)) (by omega) hlt
  rw [Int.toNat_natCast] at hx hr ⊢
  refine ⟨b, 0, hb, by omega, hlt, _, _, _, Y.cellG 2 rfl hb hr hx (plt_self k), ?_⟩
  intro hv2
  have Y : Sy h M hv2 [_, _, _, Ck.rowsG eI (Pge 0) 40 3 (some ⟨hv.size, 0, none⟩) 1 1 [⟨r.a, x.length, r.c⟩] [x]] := Y.litG eI 40 3 [⟨r.a, x.length, r.c⟩] [x] rfl rfl (by show 1 ≤ maxLen; decide)
  clear_value hv2
  have Y : Sy h M hv2 [_, _, _, _, _] := Y.takeG 2 rfl hr hx (plt_self k) (P' := Plt (k + 1)) plt_step
  have Y : Sy h M hv2 [_, _, _, _, _] := Y.giveG 3 4 rfl rfl rfl (i := 0) rfl rfl (P' := Pge 1) ge_step
  have Y : Sy h M hv2 [_, _, _, Ck.rows eI 40 3 _ _ _ _ _, _] := Y.turn 3 rfl (To.rowsAll (ge_all (Nat.le_refl _)))
  refine callX_sy (okKeep (R := fun l' s' => KeptOK l' s') K (by simp) (fun y hy => by rcases List.mem_singleton.1 hy with rfl; exact hlr _ (List.mem_of_getElem? hx)) (fun _ _ q => q) _ _ _ _ _ _ _ _ _ _ (Y.pick [0, 1, 3] rfl).hp) (fun _ _ ⟨_, _, _, _, _, _, p, _⟩ => p.fr) alln ?_
  rintro v hv3 ⟨lA', lL', lC', lH', l', s', PP, rfl, K'⟩
  have Y : Sy h M hv3 [_, _, _, _] := Y.call2 [0, 1, 3, 2, 4] rfl (A := [_, _, _]) rfl rfl PP ⟨rfl, ⟨rfl, trivial⟩⟩
  refine ⟨rfl, ?_⟩
  rw [wr (x := (k : Int) + 1) (by omega) (by omega)]
  exact ⟨⟨k + 1, _, _, _, _, _, _, by simp, by omega, K', Y.pick [0, 1, 2] rfl⟩, by dsimp only; omega⟩
end Go.Proofs.Ytmcloipjlihhlaa.N
