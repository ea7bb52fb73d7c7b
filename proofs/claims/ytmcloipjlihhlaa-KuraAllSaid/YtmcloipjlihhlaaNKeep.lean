/- Package tracerylaw3: lists that are kept, until all are there, are apart. Conditions: none. -/
import Derived.Test.YtmcloipjlihhlaaSKeep
import Derived.Test.YtmcloipjlihhlaaTKeep
import Derived.Test.YtmcloipjlihhlaaNNet
set_option linter.unusedSimpArgs false
set_option linter.unusedVariables false
namespace Go.Proofs.Ytmcloipjlihhlaa.N
open Go.X Go.Proofs.Ytmcloipjlihhlaa
set_option maxRecDepth 100000

structure KeptOK (l : List (List Int)) (s : Int) : Prop where
  s0 : 0 ≤ s
  s1 : s ≤ 1048576
  len : (l.length : Int) ≤ s
  row : ∀ x ∈ l, x.length ≤ 1048576
theorem KeptOK.nil : KeptOK [] 0 := ⟨by decide, by decide, by simp, by simp⟩
theorem okRoomR {n c : Int} {R : Int → Prop} (h0 : 0 ≤ n) (hc : n ≤ c) (hm : n ≤ 1000000000000000) (h : ∀ r, n ≤ r → r ≤ n + 2000 → R r) : Ok139 n c R := by
  apply ok139
  unfold T139
  rw [wr (by omega) (by omega)]
  split
  · exact h _ (by omega) (by omega)
  · exact h _ (by omega) (by omega)
theorem plt_self (k : Nat) : Plt k k = false := by simp [Plt]
theorem plt_step {k : Nat} : ∀ q, Plt (k + 1) q = false → Plt k q = false ∧ q ≠ k := fun q h => by
  simp only [Plt, decide_eq_false_iff_not] at h ⊢
  omega
theorem okKeep {l : List (List Int)} {s : Int} {ls : List (List Int)} {R : List (List Int) → Int → Prop} (K0 : KeptOK l s) (hls : ls.length ≤ 1000000) (hlr : ∀ x ∈ ls, x.length ≤ 1000000) (z : ∀ l' s', KeptOK l' s' → R l' s') : Ok70 l s ls R := by
  intro h bB lA lL lC lH lsA lsL lsC lsH H
  obtain ⟨M, hM⟩ : ∃ M, owns [Ck.ob bB 90 [.slice lA lL lC, .int .i64 s], Ck.rows eI 40 3 lA lL lC lH l, Ck.rows eI 40 3 lsA lsL lsC lsH ls] = M := ⟨_, rfl⟩
  rw [hM]
  have Y : Sy h M h _ := Sy.startM H hM
  have e2 := Y.lenR 2 rfl
  subst e2
  apply calls70
  unfold S70
  have Y : Sy h M h [_, _, _] := Y.turn 2 rfl (To.rowsP (P' := Plt 0) fun q _ => rfl)
  refine ⟨fun lz h' => ∃ (k : Nat) (lA : Option Addr) (lL lC : Nat) (lH : List RowH) (l : List (List Int)) (s : Int), lz = [.int .i64 (k : Int)] ∧ k ≤ ls.length ∧ KeptOK l s ∧ Sy h M h' [Ck.ob bB 90 [.slice lA lL lC, .int .i64 s], Ck.rows eI 40 3 lA lL lC lH l, Ck.rowsG eI (Plt k) 40 3 lsA ls.length lsC lsH ls],
    fun lz _ => (match lz with | [.int _ x] => ((ls.length : Int) - x).toNat | _ => 0), ⟨0, _, _, _, _, _, _, rfl, Nat.zero_le _, K0, Y⟩, ?_⟩
  rintro _ hv ⟨k, lA, lL, lC, lH, l, s, e, hk, K, Yk⟩
  cases e
  have Y := Yk
  have s0 := K.s0
  have s1 := K.s1
  have eL := Y.lenR 1 rfl
  subst eL
  refine cnd_dec (fun hlt => ?_) fun hlt => ⟨_, _, _, _, _, _, Y.pick [0, 1] rfl, rfl, z _ _ K⟩
  have hkl : k < ls.length := by omega
  obtain ⟨b, hb, hbo, x, hx, r, hr⟩ := Y.atR 2 rfl (i := (k : Int)) (by omega) hlt
  rw [Int.toNat_natCast] at hx hr ⊢
  have cell := fun {h' : Heap} {M' : List Nat} {cs : List Ck} (Y' : Sy h M' h' cs) (j : Nat) (hj : cs[j]? = some (Ck.rowsG eI (Plt k) 40 3 lsA ls.length lsC lsH ls)) => Y'.cellG j hj hb hr hx (plt_self k)
  have ow := Y.rowG 2 rfl hr hx (plt_self k)
  have cap := ow.cap
  refine ⟨b, 0, hb, by omega, hlt, _, _, _, cell Y 2 rfl, b, 0, hb, by omega, hlt, _, _, _, cell Y 2 rfl, ?_⟩
  have turn : ∀ {hv' : Heap}, Sy h M hv' [Ck.ob bB 90 [.slice lA l.length lC, .int .i64 s], Ck.rows eI 40 3 lA l.length lC lH l, Ck.rowsG eI (Plt k) 40 3 lsA ls.length lsC lsH ls] → Sy h M hv' [Ck.ob bB 90 [.slice lA l.length lC, .int .i64 s], Ck.rows eI 40 3 lA l.length lC lH l, Ck.rowsG eI (Plt (k + 1)) 40 3 lsA ls.length lsC lsH ls] :=
    fun Y' => Y'.turn 2 rfl (To.rowsP fun q w => (plt_step q w).1)
  refine callX_sy (okRoomR (R := fun r => (x.length : Int) ≤ r ∧ r ≤ x.length + 2000) (by omega) (by omega) (by have := hlr x (List.mem_of_getElem? hx); omega) (fun r a b => ⟨a, b⟩) _ (Hp.nil _)) (fun _ _ ⟨_, p, _⟩ => p.fr) alln ?_
  rintro v hv2 ⟨r0, PP, rfl, hr0, hr1⟩
  have hmax := hlr x (List.mem_of_getElem? hx)
  refine ⟨r0, rfl, PP.fr, ?_⟩
  have Y : Sy h M hv2 [_, _, _] := Y.gr PP.fr
  rw [wr (x := (k : Int) + 1) (by omega) (by omega)]
  have lt : ((ls.length : Int) - ((k : Int) + 1)).toNat < ((ls.length : Int) - (k : Int)).toNat := by omega
  refine cnd_dec (fun hr2 => ?_) fun _ => ⟨⟨k + 1, _, _, _, _, _, _, by simp, by omega, K, turn Y⟩, lt⟩
  refine ⟨bB, 0, rfl, s, Y.cellO 0 rfl 1 rfl, fun lz h' => lz = [] ∧ ∃ (lA : Option Addr) (lL lC : Nat) (lH : List RowH) (l : List (List Int)) (s : Int), KeptOK l s ∧ Sy h M h' [Ck.ob bB 90 [.slice lA lL lC, .int .i64 s], Ck.rows eI 40 3 lA lL lC lH l, Ck.rowsG eI (Plt (k + 1)) 40 3 lsA ls.length lsC lsH ls], ?_, ?_⟩
  · rw [wr (x := s + r0) (by omega) (by omega)]
    refine cnd_dec (fun hle => ?_) fun _ => ⟨rfl, _, _, _, _, _, _, K, turn Y⟩
    refine ⟨bB, 0, rfl, s, Y.cellO 0 rfl 1 rfl, bB, 0, rfl, ⟨_, Y.cellO 0 rfl 1 rfl⟩, Y.freeO 0 rfl _, ?_⟩
    rw [wr (x := s + r0) (by omega) (by omega)]
    intro hv3
    have Y : Sy h M hv3 [Ck.ob bB 90 [.slice lA l.length lC, .int .i64 (s + r0)], _, _] := Y.stO 0 rfl 1 _
    clear_value hv3
    have nb1 : bB ∉ blkOf lA := fun w => (Y.hp.ap 1 0 _ _ (by decide) rfl rfl bB (List.mem_append_left _ w)).1 (by simp [Ck.ob])
    have nb2 : b ∉ blkOf lA := fun w => (Y.hp.ap 1 2 _ _ (by decide) rfl rfl b (List.mem_append_left _ w)).1 hbo
    refine ⟨blkOf lA, (fun _ h => by cases h), bB, 0, rfl, nb1, _, _, _, Y.cellO 0 rfl 0 rfl, b, 0, hb, by omega, hlt, nb2, _, _, _, cell Y 2 rfl, ?_⟩
    intro hv4
    have F4 : Fr (blkOf lA) hv3 hv4 := (Fr.refl _ _).pushr _
    have Y : Sy h M hv4 [_, _, _, _] := Y.junk _
    clear_value hv4
    have Kl := K.len
    refine ⟨F4, _, Y.ownR 1 rfl, allc (Y.nJR 1 3 rfl rfl rfl) alln, by omega, by simp only [maxLen]; omega, ?_⟩
    intro sA sC hv6 ow' fA gA gB
    have Y : Sy h M hv4 [_, _, _, _, _] := Y.takeG 2 rfl hr hx (plt_self k) (P' := Plt (k + 1)) plt_step
    have Y : Sy h M hv6 [_, _, _, _, _] := Y.appR 1 4 rfl rfl rfl ow' fA gA
    refine ⟨F4.trans fA, bB, 0, rfl, Y.neJ 0 3 rfl rfl rfl (by simp [Ck.ob]), ⟨_, Y.cellO 0 rfl 0 rfl⟩, Y.freeO 0 rfl _, ?_⟩
    intro hv7
    have Y : Sy h M hv7 [Ck.ob bB 90 [.slice sA (l.length + 1) sC, .int .i64 (s + r0)], _, _, _, _] := Y.stO 0 rfl 0 _
    clear_value hv7
    refine ⟨rfl, _, _, _, _, _, _, ⟨by omega, hle, by simp; omega, fun y hy => ?_⟩, Y.pick [0, 1, 2] rfl⟩
    rcases List.mem_append.1 hy with hy | hy
    · exact K.row y hy
    · rcases List.mem_singleton.1 hy with rfl; omega
  · rintro hv8 ⟨_, lA', lL', lC', lH', l', s', K', Y'⟩
    exact ⟨⟨k + 1, _, _, _, _, _, _, by simp, by omega, K', Y'⟩, lt⟩
theorem set_at {l : List (List Int)} {i : Nat} {x y : List Int} (h : l[i]? = some x) : (l.set i y)[i]? = some y := by
  rw [List.getElem?_set_self (List.getElem?_eq_some_iff.1 h).1]
theorem len_at {l : List (List Int)} {i : Nat} {x y : List Int} (h : l[i]? = some x) {P : Nat → List Int → Prop} (hl : ∀ (j : Nat) (z : List Int), l[j]? = some z → j ≠ i → P j z) (hy : P i y) : ∀ (j : Nat) (z : List Int), (l.set i y)[j]? = some z → P j z := by
  intro j z hz
  by_cases e : j = i
  · subst e
    rw [set_at h] at hz
    exact Option.some.inj hz ▸ hy
  · rw [List.getElem?_set_ne (fun q => e q.symm)] at hz
    exact hl j z hz e
/-- What is told of the rows when the first ones are written full. -/
structure Marked (l0 : Nat) (k : Nat) (l : List (List Int)) : Prop where
  len : l.length = l0
  row : ∀ (j : Nat) (x : List Int), l[j]? = some x → x.length ≤ 1052576
  new : ∀ (j : Nat) (x : List Int), k ≤ j → l[j]? = some x → x.length ≤ 1048576
  done : ∀ (j : Nat) (x : List Int), j < k → l[j]? = some x → ∀ y ∈ x, y = -1000 - (j : Int)
theorem okApart {l : List (List Int)} {s : Int} {R : List (List Int) → Int → Bool → Prop} (K : KeptOK l s) (z : ∀ l', R l' s true) : Ok72 l s R := by
  have Kl := K.len
  have s1 := K.s1
  apply ok72
  unfold T72
  refine ⟨fun i l' => ∃ k : Nat, i = k ∧ k ≤ l.length ∧ Marked l.length k l', fun i _ => ((l.length : Int) - i).toNat,
    ⟨0, rfl, Nat.zero_le _, rfl, fun j x hx => by have := K.row x (List.mem_of_getElem? hx); omega, fun j x _ hx => K.row x (List.mem_of_getElem? hx), fun j x h => by omega⟩, ?_⟩
  rintro _ l1 ⟨k, rfl, hk, m1⟩
  have ml := m1.len
  refine cnd_dec (fun hlt => ⟨by omega, hlt, fun x hx cap hcap => ?_⟩) fun hlt => ?_
  · rw [Int.toNat_natCast] at hx
    have hx1 := m1.new k x (Nat.le_refl _) hx
    have hk2 : k < l.length := by omega
    refine okRoomR (by omega) (by omega) (by omega) fun r _ hr => ?_
    refine ⟨fun l2 => Marked l.length k (l2.set k []) ∧ ∃ y, l2[k]? = some y ∧ y.length ≤ 1050576, fun l2 => (r - ((l2.getD k []).length : Int)).toNat, ⟨⟨by simp [ml], len_at hx (fun j w h _ => m1.row j w h) (by simp), ?_, ?_⟩, x, hx, by omega⟩, ?_⟩
    · exact fun j w hj => len_at hx (P := fun j w => k ≤ j → w.length ≤ 1048576) (fun j w h _ q => m1.new j w q h) (fun _ => by simp) j w |> fun f h => f h hj
    · exact fun j w hj => len_at hx (P := fun j w => j < k → ∀ y ∈ w, y = -1000 - (j : Int)) (fun j w h _ q => m1.done j w q h) (fun _ y h => by cases h) j w |> fun f h => f h hj
    rintro l2 ⟨m2, y, hy, hyl⟩
    have ml2 : l2.length = l.length := by have := m2.len; simpa using this
    have same : ∀ y' : List Int, (l2.set k y').set k [] = l2.set k [] := fun y' => by simp
    refine ⟨by omega, by omega, fun y' hy' => ?_⟩
    rw [Int.toNat_natCast] at hy' ⊢
    rw [hy] at hy'
    obtain rfl := Option.some.inj hy'
    refine cnd_dec (fun hlt2 => ⟨by omega, by omega, fun y' hy' => ?_⟩) fun hlt2 => ?_
    · rw [hy] at hy'
      obtain rfl := Option.some.inj hy'
      refine ⟨by omega, ⟨by rw [same]; exact m2, _, set_at hy, by simp; omega⟩, ?_⟩
      have e1 : (l2.set k (y ++ [0])).getD k [] = y ++ [0] := by rw [List.getD_eq_getElem?_getD, set_at hy]; rfl
      have e2 : l2.getD k [] = y := by rw [List.getD_eq_getElem?_getD, hy]; rfl
      dsimp only
      rw [e1, e2, List.length_append, List.length_singleton]
      omega
    · refine ⟨fun q l3 => ∃ c : Nat, q = c ∧ Marked l.length k (l3.set k []) ∧ ∃ w, l3[k]? = some w ∧ w.length = y.length ∧ c ≤ y.length ∧ ∀ v ∈ w.take c, v = -1000 - (k : Int), fun q _ => ((y.length : Int) - q).toNat, ⟨0, rfl, m2, y, hy, rfl, Nat.zero_le _, by simp⟩, ?_⟩
      rintro _ l3 ⟨c, rfl, m3, w, hw, hwl, hc, hv⟩
      have ml3 : l3.length = l.length := by have := m3.len; simpa using this
      have same3 : ∀ y' : List Int, (l3.set k y').set k [] = l3.set k [] := fun y' => by simp
      refine ⟨by omega, by omega, fun w' hw' => ?_⟩
      rw [hw] at hw'
      obtain rfl := Option.some.inj hw'
      rw [wr (x := -1000 - (k : Int)) (by omega) (by omega), wr (x := (c : Int) + 1) (by omega) (by omega), wr (x := (k : Int) + 1) (by omega) (by omega), Int.toNat_natCast]
      refine cnd_dec (fun hlt3 => ⟨by omega, hlt3, ⟨c + 1, by simp, by rw [same3]; exact m3, _, set_at hw, by simpa using hwl, by omega, fun v hv2 => ?_⟩, by dsimp only; omega⟩) fun hlt3 => ⟨⟨k + 1, by simp, by omega, ?_⟩, by dsimp only; omega⟩
      · have hcw : c < w.length := by omega
        rw [List.take_add_one, List.getElem?_set_self hcw, List.mem_append] at hv2
        rcases hv2 with hv2 | hv2
        · rw [List.take_set_of_le (Nat.le_refl c)] at hv2
          exact hv v hv2
        · simpa using hv2
      · have hce : c = w.length := by omega
        subst hce
        rw [List.take_length] at hv
        have hset : l3 = (l3.set k []).set k w := by
          rw [List.set_set]
          apply List.ext_getElem?
          intro j
          by_cases e : k = j
          · subst e; rw [set_at hw, hw]
          · rw [List.getElem?_set_ne e]
        have h0 : (l3.set k [])[k]? = some [] := set_at hw
        refine ⟨ml3, fun j v h => ?_, fun j v h1 h => ?_, fun j v h1 h => ?_⟩
        · by_cases e : j = k
          · subst e; rw [hw] at h; obtain rfl := Option.some.inj h; omega
          · exact m3.row j v (by rw [List.getElem?_set_ne (fun q => e q.symm)]; exact h)
        · exact m3.new j v (by omega) (by rw [List.getElem?_set_ne (by omega)]; exact h)
        · by_cases e : j = k
          · subst e; rw [hw] at h; obtain rfl := Option.some.inj h; exact hv
          · exact m3.done j v (by omega) (by rw [List.getElem?_set_ne (fun q => e q.symm)]; exact h)
  · have hke : k = l.length := by omega
    subst hke
    refine ⟨fun i => ∃ c : Nat, i = c ∧ c ≤ l.length, fun i => ((l.length : Int) - i).toNat, ⟨0, rfl, Nat.zero_le _⟩, ?_⟩
    rintro _ ⟨c, rfl, hc⟩
    refine cnd_dec (fun hlt2 => ?_) fun _ => z _
    refine ⟨fun q => ∃ d : Nat, q = d, fun q => (2000000 - q).toNat, ⟨0, rfl⟩, ?_⟩
    rintro _ ⟨d, rfl⟩
    refine ⟨by omega, hlt2, fun w hw => ?_⟩
    rw [Int.toNat_natCast] at hw
    have hwl := m1.row c w hw
    refine cnd_dec (fun hlt3 => ⟨by omega, hlt3, fun v hv => ?_⟩) fun _ => ?_
    · rw [wr (x := -1000 - (c : Int)) (by omega) (by omega), wr (x := (d : Int) + 1) (by omega) (by omega)]
      refine cnd_ne (fun q => absurd (m1.done c w (by omega) hw v (List.mem_of_getElem? hv)) q) fun _ => ⟨⟨d + 1, by simp⟩, by dsimp only; omega⟩
    · rw [wr (by omega) (by omega)]
      exact ⟨⟨c + 1, by simp, by omega⟩, by dsimp only; omega⟩
end Go.Proofs.Ytmcloipjlihhlaa.N
