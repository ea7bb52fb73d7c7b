/- Law GraphAll: any calls, one behind the other, answer as the document has it. Conditions: none. -/
import Derived.Test.YtmcloipjlihhlaaNPlayP
import Derived.Test.YtmcloipjlihhlaaNEdges
import Derived.Test.YtmcloipjlihhlaaTAllG
import Derived.Test.YtmcloipjlihhlaaTRef5
import Derived.Test.YtmcloipjlihhlaaNTwin
set_option linter.unusedSimpArgs false
set_option linter.unusedVariables false
namespace Go.Proofs.Ytmcloipjlihhlaa.N
open Go.Proofs.Ytmcloipjlihhlaa
open Go.X
section
variable {s : RS} {D : RG} {l : Int}
theorem pl_plO (s : RS) (v : Int) : s.pl v = plO (s.nodeAt v) := rfl
theorem okV197 {R : Int → List (Int × Int) → List Int → List Int → Prop} (hf : fits s 1000000) (z : R s.ns.length s.net s.ns (s.es.map (·.1))) : Ok197v s.ns s.es s.nn s.ne l R := by
  have hf0 := hf
  obtain ⟨f1, f2⟩ := hf
  apply ok197v
  unfold T197v
  refine ⟨fun ids i c0 c1 => ∃ j : Nat, i = j ∧ j ≤ s.es.length ∧ ids = (s.es.take j).map (·.1) ∧ c0 = s.ns.length ∧ c1 = (s.es.take j).map fun x => (s.pl x.2.1, s.pl x.2.2), fun _ i _ _ => s.es.length - i.toNat, ⟨0, rfl, Nat.zero_le _, by simp, rfl, by simp⟩, ?_⟩
  rintro _ _ _ _ ⟨j, rfl, hj, rfl, rfl, rfl⟩
  refine cnd_dec (fun c => ⟨by omega, c, fun x hx => okV219 hf0 (okV219 hf0 ?_)⟩) fun c => ?_
  · rw [Int.toNat_natCast] at hx
    have e1 : (s.es.take (j + 1)) = s.es.take j ++ [x] := take_snoc hx
    rw [wr (by omega) (by omega)]
    refine ⟨by simp; omega, by simp; omega, ⟨j + 1, by omega, by omega, by rw [e1]; simp, rfl, by rw [e1]; simp [pl_plO]⟩, by dsimp only; omega⟩
  · have ej : j = s.es.length := by omega
    subst ej
    rw [List.take_length]
    exact ⟨by omega, z⟩
theorem okD197 {R : RG → Int → List (Int × Int) → List Int → List Int → Prop} (hf : fits D.s 900000) (z : R D D.s.ns.length D.s.net D.s.ns (D.s.es.map (·.1))) : Ok197 D R := by
  intro h b bs hp
  have Y0 : Sy h _ h [_] := Sy.startM hp rfl
  obtain ⟨nA, nL, nC, eA, eL, eC, mA, mL, mC, ps, q, Y⟩ := Y0.openD
  have c : Ok197v D.s.ns D.s.es D.s.nn D.s.ne D.last (fun n e a b => R D n e a b) := okV197 (s := D.s) ⟨Nat.le_trans hf.1 (by decide), Nat.le_trans hf.2 (by decide)⟩ z
  have Yv := ((Y.turn 0 rfl To.obvob).turn 1 rfl To.slvw).turn 2 rfl To.slvw
  refine (c h b 0 nA nL nC eA eL eC mA mL mC (hp3 Yv)).mono fun _ h' ⟨n, rA, rL, rC, r, sA, sL, sC, s', tA, tL, tC, t, P, e1, z⟩ => ?_
  exact ⟨_, D, _, _, _, _, _, _, _, _, _, _, _, _, _, Y0.callV P ⟨rfl, rfl, rfl, trivial⟩, e1, z⟩
end
theorem okIntsG {a b : List Int} {R : Bool → Prop} (hl : a.length ≤ 1000000) (e : a = b) (h : R true) : Ok68 a b R := by
  subst e
  apply ok68
  unfold T68
  refine cnd_ne (fun q => absurd rfl q) fun _ => ⟨fun i => ∃ k : Nat, i = k ∧ k ≤ a.length, fun i => ((a.length : Int) - i).toNat, ⟨0, rfl, Nat.zero_le _⟩, ?_⟩
  rintro _ ⟨i, rfl, hi⟩
  refine cnd_dec (fun hlt => ⟨by omega, hlt, fun x hx => ⟨by omega, hlt, fun y hy => ?_⟩⟩) fun _ => h
  rw [hx] at hy
  obtain rfl := Option.some.inj hy
  rw [wr (by omega) (by omega)]
  exact cnd_ne (fun q => absurd rfl q) fun _ => ⟨⟨i + 1, by simp, by omega⟩, by dsimp only; omega⟩
theorem okSpoilG {g : Int} {es : Es} {R : Prop} (hl : es.length ≤ 1000000) (h : R) : Ok41 g es R := by
  apply ok41
  unfold T41
  intro cap hcap
  apply ok139
  unfold T139
  rw [wr (by omega) (by omega)]
  generalize hr : (if (es.length : Int) + 2000 < ((cap : Nat) : Int) then (es.length : Int) + 2000 else ((cap : Nat) : Int)) = r
  have hr2 : r ≤ es.length + 2000 := by rw [← hr]; split <;> omega
  refine ⟨fun _ l => l.length ≤ es.length + 2000, fun _ l => (r - l.length).toNat, by omega, ?_⟩
  rintro _ l hll
  refine cnd_dec (fun hlt => ⟨by omega, by dsimp only; rw [List.length_append, List.length_singleton]; omega, by dsimp only; rw [List.length_append, List.length_singleton]; omega⟩) fun _ => ?_
  refine ⟨fun i c => ∃ j : Nat, i = j ∧ j ≤ l.length ∧ c.length = l.length, fun i _ => ((l.length : Int) - i).toNat, ⟨0, rfl, Nat.zero_le _, rfl⟩, ?_⟩
  rintro _ c ⟨j, rfl, hj, hc⟩
  refine cnd_dec (fun hlt => ?_) fun _ => h
  rw [wr (by omega) (by omega)]
  exact ⟨by omega, by omega, ⟨j + 1, by simp, by omega, by simpa using hc⟩, by dsimp only; omega⟩
theorem okLightG {g : Int} {es : Es} {R : Bool → Prop} (h : es.length ≤ 300 → (g ≤ 300 ∨ mayB g es = false) → R true) (h2 : R false) : Ok59 g es R := by
  apply ok59
  unfold T59
  refine cnd_dec (fun q => cnd_dec (fun q2 => h (by omega) (.inl q2)) fun _ => okMayR ?_) fun _ => h2
  cases q3 : mayB g es
  · exact h (by omega) (.inr q3)
  · exact h2
/-- Both tell the same net and ids. -/
theorem okSameG {G : Gr} {D : RG} {ms : List Int} {k : Nat} {R : Gr → RG → Bool → Prop} (B : Both G D k) (hk : k ≤ 1000000) (hu : G.undo.length ≤ 900000000) (z : R G D true) : Ok109 G D ms R := by
  have F := B.fit
  have S := B.sim
  have g := F.good
  have l1 := F.l1
  have l2 := F.l2
  have n1 := F.n1
  have n2 := F.n2
  have hf : fits D.s 900000 := ⟨by rw [S.ns]; omega, by rw [S.es]; omega⟩
  have en : D.s.net = netE G.nodes G.edges := S.net g
  have ei : D.s.ns = idsN 0 G.nodes := S.ns
  have ee : D.s.es.map (·.1) = idsE 0 G.edges := by rw [idsE_lv, S.es]; rfl
  have ll : (netE G.nodes G.edges).length ≤ 1000000 := by
    rw [netE_lv _ _ 0, List.length_map]
    show G.es.length ≤ _
    omega
  have li : (idsN 0 G.nodes).length ≤ 1000000 := by show G.ns.length ≤ _; omega
  have le : (idsE 0 G.edges).length ≤ 1000000 := by rw [idsE_lv, List.length_map]; show G.es.length ≤ _; omega
  apply ok109
  unfold T109
  refine ⟨fun t G' D' => ∃ j : Nat, t = j ∧ j ≤ 2 ∧ G' = G ∧ D' = D, fun t _ _ => 2 - t.toNat, ⟨0, rfl, by decide, rfl, rfl⟩, ?_⟩
  rintro _ G' D' ⟨j, rfl, hj, hG, hD⟩
  subst G' D'
  refine cnd_dec (fun c => ?_) fun _ => z
  refine ok79 ⟨by omega, by omega, by omega⟩ g.inR (okD197 hf ?_)
  rw [en, ei, ee]
  refine ⟨False, okSameK (by omega) (cnd_not (fun q => by cases q) fun _ => okIntsG li rfl (cnd_not (fun q => by cases q) fun _ => okIntsG le rfl (cnd_not (fun q => by cases q) fun _ => okSpoilG ll ?_))), fun q => q.elim⟩
  refine ⟨fun i a => ∃ p : Nat, i = p ∧ p ≤ (idsN 0 G.nodes).length ∧ a.length = (idsN 0 G.nodes).length, fun i _ => (idsN 0 G.nodes).length - i.toNat, ⟨0, rfl, Nat.zero_le _, rfl⟩, ?_⟩
  rintro _ a ⟨p, rfl, hp, ha⟩
  refine cnd_dec (fun c2 => ⟨by omega, c2, ?_, ?_⟩) fun _ => ?_
  · rw [wr (by omega) (by omega)]
    exact ⟨p + 1, by omega, by omega, by rw [List.length_set]; exact ha⟩
  · rw [wr (by omega) (by omega)]; dsimp only; omega
  refine ⟨fun i a => ∃ p : Nat, i = p ∧ p ≤ (idsE 0 G.edges).length ∧ a.length = (idsE 0 G.edges).length, fun i _ => (idsE 0 G.edges).length - i.toNat, ⟨0, rfl, Nat.zero_le _, rfl⟩, ?_⟩
  rintro _ a2 ⟨p2, rfl, hp2, ha2⟩
  refine cnd_dec (fun c3 => ⟨by omega, c3, ?_, ?_⟩) fun _ => ?_
  · rw [wr (by omega) (by omega)]
    exact ⟨p2 + 1, by omega, by omega, by rw [List.length_set]; exact ha2⟩
  · rw [wr (by omega) (by omega)]; dsimp only; omega
  rw [wr (by omega) (by omega)]
  exact ⟨⟨j + 1, by omega, by omega, rfl, rfl⟩, by dsimp only; omega⟩
/-- The document's graph of a net. -/
def Ok107 (n : Int) (es : List (Int × Int)) (R : Bool → RG → Int → Prop) : Prop :=
  ∀ (h : Heap) (nA : Option Addr) (nL nC : Nat), Hp h [Ck.vw eP nA nL nC es] → CallsH Try.prog 107 #[.agg #[.int .i64 n, .slice nA nL nC]] h fun v h' => ∃ (w : Bool) (b : Nat) (bs : List Nat) (D : RG) (e : Int), Sy h [] h' [Ck.opt w (Ck.rg b bs D)] ∧ v = .tuple #[.pointer (optA w b), .int .i64 e] ∧ R w D e
theorem ofNet_fitK {m k : Nat} {es : List (Int × Int)} (hm : m ≤ 1024) (hl : es.length ≤ 3072) (h1 : m ≤ k) (h2 : es.length ≤ k) (he : ∀ p ∈ es, (0 ≤ p.1 ∧ p.1 < (m : Int)) ∧ 0 ≤ p.2 ∧ p.2 < (m : Int)) : Fit (ofNet m es) k := by
  obtain ⟨l1, l2, l3⟩ := ofNet_len m es
  have e1 : (ofNet m es).ns.length = m := idsN_rep _ _
  have e2 : (ofNet m es).es.length = es.length := by
    have : ∀ (l : List (Int × Int)) (i : Nat), (lvE i (l.map fun p => (p.1 + 1, p.2 + 1, true))).length = l.length := by
      intro l
      induction l with
      | nil => intro i; rfl
      | cons x l ih => intro i; simp [lvE, ih]
    exact this _ _
  exact ⟨Gr.good.ofNet he, ⟨by rw [e1]; rfl, by rw [e2]; rfl⟩, by omega, by omega, by omega, by omega⟩
theorem ofNet_addN (x : Nat) (hx : x ≤ 1000000) : (ofNet x []).addN = ofNet (x + 1) [] := by
  have e2 : w64 ((x : Int) + 1) = ((x + 1 : Nat) : Int) := w64id (by omega) (by omega)
  show (Gr.mk (List.replicate x true ++ [true]) [] (w64 ((x : Int) + 1)) 0 [] [] 0) = _
  rw [e2, ← List.replicate_succ']; rfl
theorem ofNet_addE (m : Nat) (es : List (Int × Int)) (e : Int × Int) (hl : es.length ≤ 1000000) : (ofNet m es).addE (e.1 + 1) (e.2 + 1) = ofNet m (es ++ [e]) := by
  have e2 : w64 ((es.length : Int) + 1) = ((es ++ [e]).length : Int) := by
    rw [show w64 ((es.length : Int) + 1) = (es.length : Int) + 1 from w64id (by omega) (by omega)]; simp
  show (Gr.mk (List.replicate m true) (es.map (fun p => (p.1 + 1, p.2 + 1, true)) ++ [(e.1 + 1, e.2 + 1, true)]) m (w64 ((es.length : Int) + 1)) [] [] 0) = _
  rw [e2]
  simp [ofNet]
set_option maxHeartbeats 4000000 in
theorem okOfD {n : Int} {es : List (Int × Int)} {R : Bool → RG → Int → Prop} (k0 : mayB n es = false → ∀ D, R true D 1) (k1 : mayB n es = true → ∀ D, Sim (ofNet n.toNat es) D.s → D.marks = [] → D.last = 0 → R false D 0) : Ok107 n es R := by
  intro h nA nL nC hp
  have Y : Sy h [] h [_] := Sy.startM hp rfl
  obtain rfl := Y.lenV 0 rfl
  apply calls107
  unfold S107
  intro hv
  have Y : Sy _ _ hv [_, _] := Y.junk _
  clear_value hv
  have cM : Ok43 n es (fun r => r = mayB n es) := okMayR rfl
  refine callX_sy (cM hv _ _ _ (Y.pick [0] rfl).hp) (fun _ _ ⟨_, p, _⟩ => p.fr) (allc (fun q => by cases q) alln) ?_
  rintro _ hv2 ⟨_, P, rfl, rfl⟩
  have Y : Sy _ _ hv2 [_, _] := Y.gr P.fr
  refine ⟨_, rfl, cnd_not (fun q => ?_) fun q => ?_⟩
  · exact ⟨true, 0, [], ⟨⟨[], [], 0, 0⟩, [], 0⟩, 1, (⟨Y.fr, Hp.nil _, fun k c hk => by simp at hk⟩ : Sy h [] hv2 []).addN (Ck.opt true (Ck.rg 0 [] ⟨⟨[], [], 0, 0⟩, [], 0⟩)) trivial rfl rfl, rfl, k0 q _⟩
  obtain ⟨⟨g0, g1⟩, hl, he⟩ := mayB_iff.1 q
  obtain ⟨m, rfl⟩ := Int.eq_ofNat_of_zero_le g0
  have he' := fun p hp => endB_iff.1 (he p hp)
  intro hv3
  have Y : Sy _ _ hv3 [_, _, _] := Y.newO (ty := 155) [.slice none 0 0, .slice none 0 0, .int .i64 0, .int .i64 0, .slice none 0 0, .int .i64 0]
  clear_value hv3
  have Y : Sy _ _ hv3 [_, _, _, _] := Y.nilS eI 3
  have Y : Sy _ _ hv3 [_, _, _, _, _] := Y.nilS e3 239
  have Y : Sy _ _ hv3 [_, _, _, _, _, _] := Y.nilS eM 243
  have Y : Sy _ _ hv3 [_, _, _, _, _, _, Ck.sts []] := Y.addN (Ck.sts []) (fun p hp => by cases hp) rfl rfl
  have Y := Sy.packD (⟨⟨[], [], 0, 0⟩, [], 0⟩ : RG) (ps := []) rfl (B := [_, _]) (Y.pick [2, 3, 4, 5, 6, 0, 1] rfl)
  refine ⟨fun lz h' => ∃ (i : Nat) (bs : List Nat) (D : RG), lz = [.int .i64 i] ∧ i ≤ m ∧ Sim (ofNet i []) D.s ∧ D.marks = [] ∧ D.last = 0 ∧ Sy h [] h' [Ck.rg hv2.size bs D, Ck.vw eP nA es.length nC es, Ck.junk h.size], mI (m : Int), ⟨0, _, _, rfl, Nat.zero_le _, ⟨rfl, rfl, rfl, rfl⟩, rfl, rfl, Y⟩, ?_⟩
  rintro i hv4 ⟨i, bs, D, e, hi, S, dm, dl, Y⟩
  cases e
  refine cnd_dec (fun c => ?_) fun c => ?_
  · have F : Fit (ofNet i []) 1024 := ofNet_fitK (by omega) (by simp) (by omega) (by simp) (fun p hp => by cases hp)
    obtain ⟨a1, a2⟩ := S.addN1 F (by decide) (by show (i : Int) < 1024; omega)
    rw [ofNet_addN i (by omega)] at a2
    have hf : fits D.s 900000 := ⟨by rw [S.ns]; have := F.n1; omega, by rw [S.es]; have := F.n2; omega⟩
    have cA : Ok186 D (fun D' _ _ => D' = { D with s := D.s.addN.1 }) := okD186 hf rfl
    refine callX_sy (cA hv4 hv2.size bs (Y.pick [0] rfl).hp) (fun _ _ ⟨_, _, _, _, p, _⟩ => p.fr) (allc (Y.nO 2 [0] rfl rfl) alln) ?_
    rintro _ hv5 ⟨bs', D', ra, rb, P, rfl, rfl⟩
    have Y : Sy _ _ hv5 [_, _, _] := Y.call2 [0, 1, 2] rfl (A := [_]) rfl rfl P ⟨rfl, trivial⟩
    have hw : IntKind.i64.wrap ((i : Int) + 1) = ((i + 1 : Nat) : Int) := by rw [wr (by omega) (by omega)]; rfl
    refine ⟨ra, rb, rfl, ?_⟩
    rw [hw]
    exact ⟨⟨i + 1, bs', { D with s := D.s.addN.1 }, rfl, by omega, a2, dm, dl, Y⟩, by simp only [mI]; omega⟩
  · obtain rfl : i = m := by omega
    refine ⟨fun lz h' => ∃ (j : Nat) (bs : List Nat) (D : RG), lz = [.int .i64 j] ∧ j ≤ es.length ∧ Sim (ofNet i (es.take j)) D.s ∧ D.marks = [] ∧ D.last = 0 ∧ Sy h [] h' [Ck.rg hv2.size bs D, Ck.vw eP nA es.length nC es, Ck.junk h.size], mI (es.length : Int), ⟨0, _, _, rfl, Nat.zero_le _, S, dm, dl, Y⟩, ?_⟩
    clear Y
    rintro j hv6 ⟨j, bs, D, e, hj, S, dm, dl, Y⟩
    cases e
    refine cnd_dec (fun c2 => ?_) fun c2 => ?_
    · obtain ⟨eb, eo, heb, _, x, hx⟩ := Y.atV 1 rfl (i := (j : Int)) (by omega) c2
      have lt : (es.take j).length = j := by rw [List.length_take]; omega
      have hx0 := hx
      rw [Int.toNat_natCast] at hx
      have hxm := he' x (List.mem_of_getElem? hx)
      have F : Fit (ofNet i (es.take j)) 4000 := ofNet_fitK (by omega) (by omega) (by omega) (by omega) (fun p hp => he' p (List.mem_of_mem_take hp))
      have hf : fits D.s 900000 := ⟨by rw [S.ns]; have := F.n1; omega, by rw [S.es]; have := F.n2; omega⟩
      have n1 : (ofNet i (es.take j)).node (x.1 + 1) = true := ofNet_node (by omega) (by omega)
      have n2 : (ofNet i (es.take j)).node (x.2 + 1) = true := ofNet_node (by omega) (by omega)
      have le : (ofNet i (es.take j)).es.length = j := by
        have := F.cnt.2
        have h2 : (ofNet i (es.take j)).le = ((es.take j).length : Int) := rfl
        omega
      obtain ⟨a1, a2⟩ := S.addE1 (by rw [(ofNet_len _ _).2.1]; omega) n1 n2 (by rw [S.es]; omega)
      rw [ofNet_addE _ _ _ (by omega), ← take_snoc hx] at a2
      have cA : Ok187 D (x.1 + 1) (x.2 + 1) (fun D' _ _ => D' = { D with s := (D.s.addE (x.1 + 1) (x.2 + 1)).1 }) := okD187 hf rfl
      have nb : eb ∉ owns [Ck.rg hv2.size bs D] := fun q => (Y.hp.ap 0 1 _ _ (by omega) rfl rfl eb (by rw [owns_rg] at q; exact q)).2 (rd_mem heb (by omega))
      refine ⟨owns [Ck.rg hv2.size bs D], allc (Y.nO 2 [0] rfl rfl) alln, eb, eo, heb, by omega, c2, nb, x.1, Y.cellV 1 rfl heb (t := 0) hx0 rfl, eb, eo, heb, by omega, c2, nb, x.2, Y.cellV 1 rfl heb (t := 1) hx0 rfl, ?_⟩
      rw [wr (x := x.1 + 1) (by omega) (by omega), wr (x := x.2 + 1) (by omega) (by omega)]
      refine callX_sy (cA hv6 hv2.size bs (Y.pick [0] rfl).hp) (fun _ _ ⟨_, _, _, _, p, _⟩ => p.fr) (allc (Y.nO 2 [0] rfl rfl) alln) ?_
      rintro _ hv7 ⟨bs', D', ra, rb, P, rfl, rfl⟩
      have FF := P.fr
      have Y : Sy _ _ hv7 [_, _, _] := Y.call2 [0, 1, 2] rfl (A := [_]) rfl rfl P ⟨rfl, trivial⟩
      have hw : IntKind.i64.wrap ((j : Int) + 1) = ((j + 1 : Nat) : Int) := by rw [wr (by omega) (by omega)]; rfl
      refine ⟨ra, rb, rfl, FF, ?_⟩
      rw [hw]
      exact ⟨⟨j + 1, bs', { D with s := (D.s.addE (x.1 + 1) (x.2 + 1)).1 }, rfl, by omega, a2, dm, dl, Y⟩, by simp only [mI]; omega⟩
    · obtain rfl : j = es.length := by omega
      rw [List.take_length] at S
      refine ⟨false, _, bs, D, 0, Y.pick [0] rfl, rfl, k1 q D ?_ dm dl⟩
      rw [Int.toNat_natCast]; exact S
end Go.Proofs.Ytmcloipjlihhlaa.N
