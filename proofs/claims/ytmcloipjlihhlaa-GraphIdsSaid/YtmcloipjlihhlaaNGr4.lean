/- Package graph: edges at a node, unsplit, marks. Conditions: none. -/
import Derived.Test.YtmcloipjlihhlaaNGr3
namespace Go.Proofs.Ytmcloipjlihhlaa.N
open Go.Proofs.Ytmcloipjlihhlaa
open Go.X
theorem len2 {α : Type} : ∀ {l : List α}, l.length = 2 → ∃ a b, l = [a, b]
  | [a, b], _ => ⟨a, b, rfl⟩
section
variable {G : Gr} {e v u : Int}
/-- The edges at a node, as a slice of one's own. -/
theorem at_step {h0 h : Heap} {M H : List Nat} {B : List Ck} {b : Nat} {bs : List Nat} {K : Value → Heap → Prop} (Y : Sy h0 M h (Ck.gr b bs G :: B)) (hn : G.edges.length < 1000000000000)
    (k : ∀ h' a n c, Sy h0 M h' (Ck.gr b bs G :: B ++ [Ck.sl eI 3 a n c (G.at v)]) → K (.slice a n c) h') :
    callX Try.prog 168 #[.pointer (some ⟨b, 0, none⟩), .int .i64 v] h H K :=
  callX_sy (MA := []) (g168 G v hn h b bs (Hp.one (Y.ok (k := 0) rfl))) (fun _ _ ⟨_, _, _, p, _⟩ => p.fr) (fun _ _ q => by cases q) fun _ h' ⟨a, n, c, P, e⟩ => e ▸ k h' a n c (Y.callV P ⟨rfl, trivial⟩)
theorem ok78 {R : Gr → Int → Int → Prop} (hr : G.room 4) (k0 : G.node v = false → R G 0 2)
    (k2 : G.node v = true → (∀ k f, G.at v = [k, f] → (G.edgeAt k).1 = (G.edgeAt k).2.1 ∨ (G.edgeAt f).1 = (G.edgeAt f).2.1) → R G 0 10)
    (k1 : ∀ k f, G.node v = true → G.at v = [k, f] → (G.edgeAt k).1 ≠ (G.edgeAt k).2.1 → (G.edgeAt f).1 ≠ (G.edgeAt f).2.1 → R (G.unsplitG v k f) k 0)
    (hl : ∀ k ∈ G.at v, G.hasE k = true) : Ok78 G v R := by
  intro h b bs hp
  obtain ⟨r1, r2, r3⟩ := hr
  have Y : Sy h _ h [_] := Sy.startM hp rfl
  apply calls78
  unfold S78
  refine GC.step (g162 G) Y alln fun _ h1 bs1 G1 Y ⟨e1, e2⟩ => ⟨false, e1, cnd_f rfl ?_⟩
  subst e2
  refine GC.step (g167 G1 v (by omega)) Y alln fun _ h1 bs1 G2 Y ⟨e1, e2⟩ => ⟨_, e1, ?_⟩
  subst e2
  refine cnd_not (fun c => ⟨bs1, G2, 0, 2, Y, rfl, k0 c⟩) fun c => ?_
  refine at_step Y (by omega) fun h2 rA rL rC Y => ⟨_, _, _, rfl, ?_⟩
  have Y : Sy _ _ h2 [_, _] := Y
  obtain rfl := Y.lenS 1 rfl
  have out : ∀ {h'} , Sy h (owns [Ck.gr b bs G2]) h' [Ck.gr b bs1 G2, Ck.sl eI 3 rA (G2.at v).length rC (G2.at v)] → (∀ k f, G2.at v = [k, f] → (G2.edgeAt k).1 = (G2.edgeAt k).2.1 ∨ (G2.edgeAt f).1 = (G2.edgeAt f).2.1) → ∃ (gS2 : List Nat) (gG1 : Gr) (raV : Int) (rbV : Int), Sy h (owns [Ck.gr b bs G2]) h' [Ck.gr b gS2 gG1] ∧ (Value.tuple #[.int .i64 0, .int .i64 10] : Value) = .tuple #[.int .i64 raV, .int .i64 rbV] ∧ R gG1 raV rbV :=
    fun Y q => ⟨bs1, G2, 0, 10, Y.pick [0] rfl, rfl, k2 c q⟩
  refine cnd_ne (fun c2 => out Y fun k f q => by rw [q] at c2; simp at c2) fun c2 => ?_
  obtain ⟨k, f, hkf⟩ : ∃ k f, G2.at v = [k, f] := len2 (by omega)
  have hk := hl k (by simp [hkf])
  have hf := hl f (by simp [hkf])
  have x0 : (G2.at v)[(Int.toNat (0 : Int))]? = some k := by rw [hkf]; rfl
  have x1 : (G2.at v)[(Int.toNat (1 : Int))]? = some f := by rw [hkf]; rfl
  have l0 : (0 : Int) < ((G2.at v).length : Int) := by omega
  have l1 : (1 : Int) < ((G2.at v).length : Int) := by omega
  obtain ⟨rb, hb, _⟩ := Y.atS 1 rfl (Int.le_refl 0) l0
  have kr := hk
  have fr := hf
  simp only [Gr.hasE, Bool.and_eq_true, decide_eq_true_eq] at kr fr
  -- whether an edge is a loop
  have lp : ∀ {h' : Heap} {eb eo : Nat} {x y : Int} {K : Value → Heap → Prop}, hcell h' eb eo = some (.int .i64 x) → hcell h' eb (eo + 1) = some (.int .i64 y) → K (.bool (x == y)) h' → callX Try.prog 169 #[.pointer (some ⟨eb, eo, none⟩)] h' [] K := by
    intro h' eb eo x y K a1 a2 k
    refine callX_sy (MA := []) (R := fun w h2 => h2 = h' ∧ w = .bool (x == y)) (calls169 _ ?_) (fun _ _ r => r.1 ▸ Fr.refl _ _) alln ?_
    · unfold S169
      exact ⟨eb, eo, rfl, x, a1, eb, eo, rfl, y, a2, rfl, rfl⟩
    · rintro _ _ ⟨rfl, rfl⟩; exact k
  refine ⟨rb, 0, hb, Int.le_refl 0, l0, k, Y.cellS 1 rfl hb (t := 0) x0 rfl, ?_⟩
  refine edge_step Y (by omega) (fun c2 => by rw [hk] at c2; cases c2) fun eb eo _ a1 a2 => ⟨_, rfl, lp a1 a2 ⟨_, rfl, ?_⟩⟩
  refine cnd_eq (fun c3 => out Y fun k' f' q => by rw [hkf] at q; simp at q; obtain ⟨rfl, rfl⟩ := q; exact .inl c3) fun c3 => ?_
  refine ⟨rb, 0, hb, by omega, l1, f, Y.cellS 1 rfl hb (t := 0) x1 rfl, ?_⟩
  refine edge_step Y (by omega) (fun c2 => by rw [hf] at c2; cases c2) fun eb eo _ a1 a2 => ⟨_, rfl, lp a1 a2 ⟨_, rfl, ?_⟩⟩
  refine cnd_eq (fun c4 => out Y fun k' f' q => by rw [hkf] at q; simp at q; obtain ⟨rfl, rfl⟩ := q; exact .inr c4) fun c4 => ?_
  refine ⟨rb, 0, hb, by omega, l1, f, Y.cellS 1 rfl hb (t := 0) x1 rfl, ?_⟩
  refine edge_step Y (by omega) (fun c2 => by rw [hf] at c2; cases c2) fun eb eo _ a1 a2 => ⟨_, rfl, eb, eo, rfl, _, a1, _, a2, ?_⟩
  intro hv9
  have Y : Sy _ _ hv9 [_, _, _] := Y.junk _
  intro hv10
  have Y : Sy _ _ hv10 [_, _, _] := ((Y.stJ 2 rfl _ _).stJ 2 rfl _ _)
  clear_value hv10
  refine ⟨rb, 0, hb, Int.le_refl 0, l0, k, Y.cellS 1 rfl hb (t := 0) x0 rfl, ?_⟩
  refine edge_step Y (by omega) (fun c2 => by rw [hk] at c2; cases c2) fun eb eo _ a1 a2 => ⟨_, rfl, eb, eo, rfl, _, a2, ?_⟩
  refine ⟨fun lz h' => lz = [.int .i64 (G2.ends1 k v)] ∧ h' = hv10, cnd_eq (fun c5 => ⟨?_, rfl⟩) (fun c5 => ⟨?_, rfl⟩), ?_⟩
  · have : ((G2.edgeAt k).2.1 == v) = true := by simp [c5]
    rw [Gr.ends1, this]; rfl
  · have : ((G2.edgeAt k).2.1 == v) = false := by simp [c5]
    rw [Gr.ends1, this]; rfl
  · rintro en hv12 ⟨q1, rfl⟩
    have q2 : en = G2.ends1 k v := by simpa using q1
    subst q2
    have en0 : 0 ≤ G2.ends1 k v ∧ G2.ends1 k v ≤ 1 := by unfold Gr.ends1; split <;> omega
    refine ⟨rb, 0, hb, Int.le_refl 0, l0, k, Y.cellS 1 rfl hb (t := 0) x0 rfl, ?_⟩
    refine GC.step (g166 G2 k _ _ (by omega) kr.1.1 kr.1.2 (by omega) en0.1 en0.2) Y alln fun _ h2 bs2 G3 Y ⟨e1, e2⟩ => ⟨e1, ?_⟩
    have m1 : G3.edges.length = G2.edges.length := by rw [e2, Gr.move, Gr.did_edges]; simp [Gr.setEnd]
    have m2 : G3.undo.length ≤ G2.undo.length + 1 := by rw [e2]; exact Gr.did_undo _ _
    have m3 : G3.nodes.length = G2.nodes.length := by rw [e2, Gr.move, Gr.did_nodes]; rfl
    have Y : Sy _ _ h2 [_, _, _] := Y
    refine ⟨rb, 0, hb, by omega, l1, f, Y.cellS 1 rfl hb (t := 0) x1 rfl, ?_⟩
    refine GC.step (g170 G3 f (by omega) fr.1.1 (by omega) (by omega)) Y alln fun _ h3 bs3 G4 Y ⟨e1, e3⟩ => ⟨e1, ?_⟩
    have m4 : G4.undo.length ≤ G3.undo.length + 1 := by rw [e3]; exact Gr.did_undo _ _
    have m5 : G4.nodes.length = G3.nodes.length := by rw [e3, Gr.dropE, Gr.did_nodes]; rfl
    have vr := c
    simp only [Gr.node, Bool.and_eq_true, decide_eq_true_eq] at vr
    refine GC.step (g171 G4 v (by omega) vr.1.1 (by omega) (by omega)) Y alln fun _ h4 bs4 G5 Y ⟨e1, e4⟩ => ⟨e1, ?_⟩
    have Y : Sy _ _ h4 [_, _, _] := Y
    refine ⟨rb, 0, hb, Int.le_refl 0, l0, k, Y.cellS 1 rfl hb (t := 0) x0 rfl, ?_⟩
    refine ⟨bs4, G5, k, 0, Y.pick [0] rfl, rfl, ?_⟩
    subst e4; subst e3; subst e2
    exact k1 k f c hkf c3 c4
theorem ok101 {R : Gr → Int → Prop} (hr : G.room 1) (hm : G.marks.length ≤ 64) (k0 : 64 ≤ G.marks.length → R G 0) (k1 : G.marks.length < 64 → R G.markG (w64 (G.last + 1))) : Ok101 G R := by
  intro h b bs hp
  obtain ⟨r1, r2, r3⟩ := hr
  have Y : Sy h _ h [_] := Sy.startM hp rfl
  apply calls101
  unfold S101
  refine GC.step (g162 G) Y alln fun _ h1 bs1 G1 Y ⟨e1, e2⟩ => ⟨false, e1, cnd_f rfl ?_⟩
  subst e2
  have Y0 := Y
  obtain ⟨nA, nL, nC, eA, eL, eC, uA, uL, uC, rs, mA, mL, mC, Y⟩ := Y.openG
  have Y : Sy _ _ h1 [_, _, _, _, _] := Y
  obtain rfl := Y.lenS 4 rfl
  obtain rfl := Y.lenU 3 rfl
  refine ⟨b, 0, rfl, _, _, _, Y.cellO 0 rfl 6 rfl, cnd_dec (fun c => ⟨bs1, G1, 0, Y0, rfl, k0 (by omega)⟩) fun c => ?_⟩
  refine ⟨b, 0, rfl, _, Y.cellO 0 rfl 7 rfl, b, 0, rfl, ⟨_, Y.cellO 0 rfl 7 rfl⟩, Y.freeO 0 rfl _, ?_⟩
  intro hv2
  have Y : Sy _ _ hv2 [_, _, _, _, _] := Y.stO 0 rfl 7 _
  clear_value hv2
  have nb : b ∉ blkOf mA := fun q => (Y.hp.ap 0 4 _ _ (by omega) rfl rfl b (by simp [Ck.ob])).1 q
  refine ⟨blkOf mA, alln, b, 0, rfl, nb, _, _, _, Y.cellO 0 rfl 6 rfl, b, 0, rfl, nb, _, Y.cellO 0 rfl 7 rfl, b, 0, rfl, nb, _, _, _, Y.cellO 0 rfl 5 rfl, ?_⟩
  have F : Fr (blkOf mA) hv2 hv2 := Fr.refl _ _
  intro hv3
  have F : Fr (blkOf mA) hv2 hv3 := F.pushr _
  have Y : Sy _ _ hv3 [_, _, _, _, _, _] := Y.junk _
  clear_value hv3
  refine ⟨F, _, Y.ownS 4 rfl, allc (Y.nJ 4 5 rfl rfl rfl) alln, by omega, by simp [maxLen]; omega, ?_⟩
  intro sA sC hv5 ow fA gA gB
  have Y : Sy _ _ hv5 [_, _, _, _, _, _] := Y.appS 4 rfl ([(w64 (G1.last + 1), (G1.undo.length : Int))] : List (Int × Int)) ow fA gA rfl rfl
  refine ⟨F.trans fA, b, 0, rfl, Y.neJ 0 5 rfl rfl rfl (by simp [Ck.ob]), ⟨_, Y.cellO 0 rfl 6 rfl⟩, Y.freeO 0 rfl _, ?_⟩
  intro hv6
  have Y : Sy _ _ hv6 [_, _, _, _, _, _] := Y.stO 0 rfl 6 _
  refine ⟨b, 0, rfl, _, Y.cellO 0 rfl 7 rfl, _, _, _, Sy.packG G1.markG (B := []) (Y.pick [0, 1, 2, 3, 4] rfl), rfl, k1 (by omega)⟩
theorem ok100 {R : Gr → Prop} (hr : G.room 1) (k : R G) : Ok100 G v R := by
  intro h b bs hp
  obtain ⟨r1, r2, r3⟩ := hr
  have Y : Sy h _ h [_] := Sy.startM hp rfl
  apply calls100
  unfold S100
  intro hv
  have Y : Sy _ _ hv [_, _] := Y.newO _
  clear_value hv
  refine GC.step (g162 G) Y alln fun _ h1 bs1 G1 Y ⟨e1, e2⟩ => ⟨false, e1, cnd_t rfl ?_⟩
  subst e2
  refine GC.step (g167 G1 v (by omega)) Y alln fun _ h1 bs1 G2 Y ⟨e1, e2⟩ => ⟨_, e1, ?_⟩
  subst e2
  refine ⟨fun _ h' => Sy h (owns [Ck.gr b bs G2]) h' [Ck.gr b bs1 G2], cnd_b (fun c => ?_) (fun c => Y.pick [0] rfl), fun hv6 Y => ⟨bs1, G2, _, _, _, Y, rfl, k⟩⟩
  refine at_step Y (by omega) fun h2 rA rL rC Y => ⟨_, _, _, rfl, ?_⟩
  have Y : Sy _ _ h2 [_, _, _] := Y
  refine ⟨⟨_, Y.cellO 1 rfl 0 rfl⟩, Y.freeO 1 rfl _, ?_⟩
  intro hv5
  have Y : Sy _ _ hv5 [_, _, _] := Y.stO 1 rfl 0 _
  exact Y.pick [0] rfl
end
end Go.Proofs.Ytmcloipjlihhlaa.N
