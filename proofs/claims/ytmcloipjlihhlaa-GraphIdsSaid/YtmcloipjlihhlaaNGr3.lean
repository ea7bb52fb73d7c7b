/- Package graph: what undoes something; the exported calls. Conditions: none. -/
import Derived.Test.YtmcloipjlihhlaaNGr2
namespace Go.X
/-- There is room for k more. -/
def Gr.room (G : Gr) (k : Nat) : Prop := G.nodes.length + k < 1000000000 ∧ G.edges.length + k < 1000000000 ∧ G.undo.length + k < 1000000000
def Gr.splitG (G : Gr) (e : Int) : Gr := ((G.addN).addE (G.nodes.length + 1) (G.edgeAt e).2.1).move e 1 (G.nodes.length + 1)
def Gr.ends1 (G : Gr) (e v : Int) : Int := if (G.edgeAt e).2.1 == v then 1 else 0
def Gr.unsplitG (G : Gr) (v k f : Int) : Gr := (((G.move k (G.ends1 k v) (w64 (w64 ((G.edgeAt f).1 + (G.edgeAt f).2.1) - v))).dropE f).dropN v)
def Gr.dropAll (G : Gr) (v : Int) : Gr := ((G.at v).foldl Gr.dropE G).dropN v
def Gr.markG (G : Gr) : Gr := { G with last := w64 (G.last + 1), marks := G.marks ++ [(w64 (G.last + 1), (G.undo.length : Int))] }
theorem Gr.did_nodes (G : Gr) (u : Und) : (G.did u).nodes = G.nodes := by unfold Gr.did; split <;> rfl
theorem Gr.did_edges (G : Gr) (u : Und) : (G.did u).edges = G.edges := by unfold Gr.did; split <;> rfl
theorem Gr.did_undo (G : Gr) (u : Und) : (G.did u).undo.length ≤ G.undo.length + 1 := by unfold Gr.did; split <;> simp
theorem Gr.at_range (v : Int) : ∀ (l : List (Int × Int × Bool)) (i : Nat) (e : Int), e ∈ atL v i l → (i : Int) + 1 ≤ e ∧ e ≤ (i : Int) + l.length
  | [], i, e, h => by simp [atL] at h
  | y :: l, i, e, h => by
    simp only [atL, List.mem_append] at h
    rcases h with h | h
    · split at h
      · simp at h; subst h; simp; omega
      · simp at h
    · have := Gr.at_range v l (i + 1) e h
      simp only [List.length_cons]
      omega
end Go.X
namespace Go.Proofs.Ytmcloipjlihhlaa.N
open Go.Proofs.Ytmcloipjlihhlaa
open Go.X

/-- What undoes something, called. -/
theorem undo_calls (G : Gr) (u : Und) (hc : G.can u) (hr : G.room 1) : ∀ (h : Heap) (b : Nat) (bs : List Nat) (r : FnR), Hp h [Ck.gr b bs G] → Means h r u →
    ∃ g, r.f = .func g ∧ r.x = #[] ∧ (g = 212 ∨ g = 213 ∨ g = 214 ∨ g = 215 ∨ g = 216) ∧ CallsH Try.prog g ([Value.pointer (some ⟨b, 0, none⟩)] ++ r.y.toList).toArray h fun v h' => ∃ bs', Sy h bs h' [Ck.gr b bs' (G.undo1 u)] ∧ v = .tuple #[] := by
  intro h b bs r hp m
  have Y0 : Sy h bs h [_] := Sy.startM hp owns_gr
  obtain ⟨r1, r2, r3⟩ := hr
  obtain ⟨nA, nL, nC, eA, eL, eC, uA, uL, uC, rs, mA, mL, mC, Y⟩ := Y0.openG
  have Y : Sy h bs h [_, _, _, _, _] := Y
  obtain rfl := Y.lenS 1 rfl
  obtain rfl := Y.lenS 2 rfl
  cases u with
  | popN =>
    subst m
    refine ⟨212, rfl, rfl, .inl rfl, calls212 _ ?_⟩
    unfold S212
    have hc : 0 < G.nodes.length := hc
    have hw : IntKind.i64.wrap ((G.nodes.length : Int) - 1) = (G.nodes.length : Int) - 1 := wr (by omega) (by omega)
    have cp := Y.capS 1 rfl
    refine ⟨b, 0, rfl, _, _, _, Y.cellO 0 rfl 1 rfl, b, 0, rfl, _, _, _, Y.cellO 0 rfl 1 rfl, by rw [hw]; omega, by rw [hw]; omega, b, 0, rfl, ⟨_, Y.cellO 0 rfl 1 rfl⟩, Y.freeO 0 rfl _, ?_⟩
    intro hv
    have Y1 := Y.stO 0 rfl 1 (.slice (if nC = 0 then nA else Option.map (fun addr => Addr.add addr (0 * 1)) nA) ((Int.toNat (IntKind.i64.wrap ((G.nodes.length : Int) - (1 : Int)))) - 0) (nC - 0))
    have Y : Sy _ _ hv [_, _, _, _, _] := Y1
    have et : (IntKind.i64.wrap ((G.nodes.length : Int) - 1)).toNat - 0 = G.nodes.length - 1 := by rw [hw]; omega
    rw [slice0, et] at Y
    have Y : Sy _ _ hv [_, _, _, _, _] := Y.shrS 1 rfl (G.nodes.length - 1) (by omega)
    refine ⟨b, 0, rfl, _, Y.cellO 0 rfl 3 rfl, b, 0, rfl, ⟨_, Y.cellO 0 rfl 3 rfl⟩, Y.freeO 0 rfl _, ?_⟩
    intro hv2
    have Y : Sy _ _ hv2 [_, _, _, _, _] := Y.stO 0 rfl 3 _
    exact ⟨_, Sy.packG (G.undo1 .popN) (B := []) Y, rfl⟩
  | popE =>
    subst m
    refine ⟨213, rfl, rfl, .inr (.inl rfl), calls213 _ ?_⟩
    unfold S213
    have hc : 0 < G.edges.length := hc
    have hw : IntKind.i64.wrap ((G.edges.length : Int) - 1) = (G.edges.length : Int) - 1 := wr (by omega) (by omega)
    have cp := Y.capS 2 rfl
    refine ⟨b, 0, rfl, _, _, _, Y.cellO 0 rfl 2 rfl, b, 0, rfl, _, _, _, Y.cellO 0 rfl 2 rfl, by rw [hw]; omega, by rw [hw]; omega, b, 0, rfl, ⟨_, Y.cellO 0 rfl 2 rfl⟩, Y.freeO 0 rfl _, ?_⟩
    intro hv
    have Y1 := Y.stO 0 rfl 2 (.slice (if eC = 0 then eA else Option.map (fun addr => Addr.add addr (0 * 3)) eA) ((Int.toNat (IntKind.i64.wrap ((G.edges.length : Int) - (1 : Int)))) - 0) (eC - 0))
    have Y : Sy _ _ hv [_, _, _, _, _] := Y1
    have et : (IntKind.i64.wrap ((G.edges.length : Int) - 1)).toNat - 0 = G.edges.length - 1 := by rw [hw]; omega
    rw [slice0, et] at Y
    have Y : Sy _ _ hv [_, _, _, _, _] := Y.shrS 2 rfl (G.edges.length - 1) (by omega)
    refine ⟨b, 0, rfl, _, Y.cellO 0 rfl 4 rfl, b, 0, rfl, ⟨_, Y.cellO 0 rfl 4 rfl⟩, Y.freeO 0 rfl _, ?_⟩
    intro hv2
    have Y : Sy _ _ hv2 [_, _, _, _, _] := Y.stO 0 rfl 4 _
    exact ⟨_, Sy.packG (G.undo1 .popE) (B := []) Y, rfl⟩
  | ends e en v =>
    obtain ⟨p, q, s, rfl, b1, b2, b3⟩ := m
    obtain ⟨h1, h2, e0, e1⟩ := hc
    refine ⟨214, rfl, rfl, .inr (.inr (.inl rfl)), calls214 _ _ _ _ ?_⟩
    unfold S214
    have hw : IntKind.i64.wrap (e - 1) = e - 1 := wr (by omega) (by omega)
    have q1 : 0 ≤ IntKind.i64.wrap (e - 1) := by rw [hw]; omega
    have q2 : IntKind.i64.wrap (e - 1) < (G.edges.length : Int) := by rw [hw]; omega
    obtain ⟨nb, ha, _, x, hx⟩ := Y.atS 2 rfl q1 q2
    have e3 : en < ((2 : Nat) : Int) := by omega
    have c01 : en = 0 ∨ en = 1 := by omega
    have hc : (e2B.enc x)[en.toNat]? = some (.int .i64 (endOf x en)) := by
      rcases c01 with rfl | rfl <;> rfl
    have hs : e2B.enc (putEnd x en v) = (e2B.enc x).set en.toNat (.int .i64 v) := by
      rcases c01 with rfl | rfl <;> rfl
    have ht : en.toNat < e2B.sz := by show en.toNat < 3; omega
    have hc2 := Y.cellS 2 rfl ha hx hc
    refine ⟨b, 0, rfl, _, _, _, Y.cellO 0 rfl 2 rfl, q, 0, rfl, e, hcell_of b2 0, s, 0, rfl, en, hcell_of b3 0, p, 0, rfl, v, hcell_of b1 0, nb, 0, ha, q1, q2, e0, e3, ⟨_, by rw [Nat.mul_one]; exact hc2⟩, Y.freeS 2 rfl ha _, ?_⟩
    intro hv5
    have Y1 := Y.stS 2 rfl ha (t := en.toNat) (putEnd x en v) hx ht hs
    have e5 : hv5 = hset h nb (0 + (IntKind.i64.wrap (e - 1)).toNat * e2B.sz + en.toNat) (.int .i64 v) := by
      show hset h nb (0 + (IntKind.i64.wrap (e - 1)).toNat * 3 + en.toNat * 1) (.int .i64 v) = _
      rw [Nat.mul_one]; rfl
    rw [← e5] at Y1
    clear_value hv5
    have Y : Sy _ _ hv5 [_, _, _, _, _] := Y1
    have Y := Sy.packG { G with edges := G.edges.set (IntKind.i64.wrap (e - 1)).toNat (putEnd x en v) } (B := []) Y
    rw [set_modify (f := fun x => putEnd x en v) hx] at Y
    have eg : G.undo1 (.ends e en v) = { G with edges := G.edges.modify (IntKind.i64.wrap (e - 1)).toNat fun x => putEnd x en v } := by simp only [Gr.undo1, Gr.setEnd, hw]
    rw [eg]
    exact ⟨_, Y, rfl⟩
  | edge e =>
    obtain ⟨p, rfl, b1⟩ := m
    obtain ⟨h1, h2⟩ := hc
    refine ⟨215, rfl, rfl, .inr (.inr (.inr (.inl rfl))), calls215 _ _ ?_⟩
    unfold S215
    have hw : IntKind.i64.wrap (e - 1) = e - 1 := wr (by omega) (by omega)
    have q1 : 0 ≤ IntKind.i64.wrap (e - 1) := by rw [hw]; omega
    have q2 : IntKind.i64.wrap (e - 1) < (G.edges.length : Int) := by rw [hw]; omega
    obtain ⟨nb, ha, _, x, hx⟩ := Y.atS 2 rfl q1 q2
    refine ⟨b, 0, rfl, _, _, _, Y.cellO 0 rfl 2 rfl, p, 0, rfl, e, hcell_of b1 0, nb, 0, ha, q1, q2, Y.cellEx 2 rfl ha (t := 2) (by omega) (by decide), Y.freeS 2 rfl ha _, ?_⟩
    intro hv2
    have Y : Sy _ _ hv2 [_, _, _, _, _] := Y.stS 2 rfl ha (t := 2) (x.1, x.2.1, true) hx (by decide) rfl
    refine ⟨b, 0, rfl, _, Y.cellO 0 rfl 4 rfl, b, 0, rfl, ⟨_, Y.cellO 0 rfl 4 rfl⟩, Y.freeO 0 rfl _, ?_⟩
    intro hv3
    have Y : Sy _ _ hv3 [_, _, _, _, _] := Y.stO 0 rfl 4 _
    have Y := Sy.packG ({ G with edges := G.edges.set (IntKind.i64.wrap (e - 1)).toNat (x.1, x.2.1, true), le := w64 (G.le + 1) }) (B := []) Y
    rw [set_modify (f := fun x => (x.1, x.2.1, true)) hx] at Y
    have eg : G.undo1 (.edge e) = { G with edges := G.edges.modify (IntKind.i64.wrap (e - 1)).toNat fun x => (x.1, x.2.1, true), le := w64 (G.le + 1) } := by simp only [Gr.undo1, Gr.setE, hw]
    rw [eg]
    exact ⟨_, Y, rfl⟩
  | node v =>
    obtain ⟨p, rfl, b1⟩ := m
    obtain ⟨h1, h2⟩ := hc
    refine ⟨216, rfl, rfl, .inr (.inr (.inr (.inr rfl))), calls216 _ _ ?_⟩
    unfold S216
    have hw : IntKind.i64.wrap (v - 1) = v - 1 := wr (by omega) (by omega)
    have q1 : 0 ≤ IntKind.i64.wrap (v - 1) := by rw [hw]; omega
    have q2 : IntKind.i64.wrap (v - 1) < (G.nodes.length : Int) := by rw [hw]; omega
    obtain ⟨nb, ha, _, x, hx⟩ := Y.atS 1 rfl q1 q2
    refine ⟨b, 0, rfl, _, _, _, Y.cellO 0 rfl 1 rfl, p, 0, rfl, v, hcell_of b1 0, nb, 0, ha, q1, q2, Y.cellEx 1 rfl ha (t := 0) (by omega) (by decide), Y.freeS 1 rfl ha _, ?_⟩
    intro hv2
    have Y : Sy _ _ hv2 [_, _, _, _, _] := Y.st1 1 rfl ha true (by omega) rfl
    refine ⟨b, 0, rfl, _, Y.cellO 0 rfl 3 rfl, b, 0, rfl, ⟨_, Y.cellO 0 rfl 3 rfl⟩, Y.freeO 0 rfl _, ?_⟩
    intro hv3
    have Y : Sy _ _ hv3 [_, _, _, _, _] := Y.stO 0 rfl 3 _
    have Y := Sy.packG ({ G with nodes := G.nodes.set (IntKind.i64.wrap (v - 1)).toNat true, ln := w64 (G.ln + 1) }) (B := []) Y
    have eg : G.undo1 (.node v) = { G with nodes := G.nodes.set (IntKind.i64.wrap (v - 1)).toNat true, ln := w64 (G.ln + 1) } := by simp only [Gr.undo1, Gr.setN, hw]
    rw [eg]
    exact ⟨_, Y, rfl⟩
  | any => exact hc.elim
section
variable {G : Gr} {e v u : Int}
theorem ok161 {R : Gr → Prop} (T : R ⟨[], [], 0, 0, [], [], 0⟩) : Ok161 R :=
  fun h _ => (g161 h).mono fun _ _ ⟨b, bs, P, e⟩ => ⟨b, bs, _, P, e, T⟩
theorem ok76 {R : Gr → Int → Int → Int → Prop} (hr : G.room 1) (k0 : G.hasE e = false → R G 0 0 2) (k1 : G.hasE e = true → R G (G.edgeAt e).1 (G.edgeAt e).2.1 0) : Ok76 G e R := by
  intro h b bs hp
  obtain ⟨r1, r2, r3⟩ := hr
  have Y : Sy h _ h [_] := Sy.startM hp rfl
  apply calls76
  unfold S76
  refine GC.step (g162 G) Y alln fun v h1 bs1 G1 Y ⟨e1, e2⟩ => ⟨false, e1, cnd_f rfl ?_⟩
  subst e2
  refine edge_step Y (by omega) (fun c => ⟨_, rfl, cnd_t rfl ⟨bs1, G1, 0, 0, 2, Y, rfl, k0 c⟩⟩) fun eb eo c _ _ => ⟨_, rfl, cnd_f rfl (edge_step Y (by omega) (fun c2 => by rw [c] at c2; cases c2) fun eb2 eo2 _ a1 a2 => ⟨_, rfl, eb2, eo2, rfl, _, a1, _, a2, ?_⟩)⟩
  intro hv4
  have Y : Sy _ _ hv4 [_, _] := Y.junk _
  intro hv5
  have Y : Sy _ _ hv5 [_, _] := ((Y.stJ 1 rfl _ _).stJ 1 rfl _ _)
  exact ⟨bs1, G1, _, _, _, Y.pick [0] rfl, rfl, k1 c⟩
theorem ok97 {R : Gr → Int → Int → Prop} (hr : G.room 1) (k0 : 1024 ≤ G.ln → R G 0 3) (k1 : G.ln < 1024 → R G.addN ((G.nodes.length : Int) + 1) 0) : Ok97 G R := by
  intro h b bs hp
  obtain ⟨r1, r2, r3⟩ := hr
  have Y : Sy h _ h [_] := Sy.startM hp rfl
  apply calls97
  unfold S97
  refine GC.step (g162 G) Y alln fun v h1 bs1 G1 Y ⟨e1, e2⟩ => ⟨false, e1, cnd_f rfl ?_⟩
  subst e2
  refine ⟨b, 0, rfl, _, (cellG Y).1, cnd_dec (fun c => ⟨bs1, G1, 0, 3, Y, rfl, k0 c⟩) fun c => ?_⟩
  refine GC.step (g164 G1 (by omega) (by omega)) Y alln fun v h2 bs2 G2 Y ⟨e1, e2⟩ => ⟨_, e1, ?_⟩
  subst e2
  exact ⟨bs2, _, _, 0, Y, rfl, k1 (by omega)⟩
theorem ok98 {R : Gr → Int → Int → Prop} (hr : G.room 1) (k0 : (G.node u = false ∨ G.node v = false) → R G 0 2) (k2 : G.node u = true → G.node v = true → 3072 ≤ G.le → R G 0 3) (k1 : G.node u = true → G.node v = true → G.le < 3072 → R (G.addE u v) ((G.edges.length : Int) + 1) 0) : Ok98 G u v R := by
  intro h b bs hp
  obtain ⟨r1, r2, r3⟩ := hr
  have Y : Sy h _ h [_] := Sy.startM hp rfl
  apply calls98
  unfold S98
  refine GC.step (g162 G) Y alln fun _ h1 bs1 G1 Y ⟨e1, e2⟩ => ⟨false, e1, cnd_f rfl ?_⟩
  subst e2
  refine GC.step (g167 G1 u (by omega)) Y alln fun _ h1 bs1 G2 Y ⟨e1, e2⟩ => ⟨_, e1, ?_⟩
  subst e2
  refine cnd_not (fun c => ⟨bs1, G2, 0, 2, Y, rfl, k0 (.inl c)⟩) fun c => ?_
  refine GC.step (g167 G2 v (by omega)) Y alln fun _ h1 bs1 G1 Y ⟨e1, e2⟩ => ⟨_, e1, ?_⟩
  subst e2
  refine cnd_not (fun c => ⟨bs1, G1, 0, 2, Y, rfl, k0 (.inr c)⟩) fun c2 => ?_
  refine ⟨b, 0, rfl, _, (cellG Y).2, cnd_dec (fun c3 => ⟨bs1, G1, 0, 3, Y, rfl, k2 c c2 c3⟩) fun c3 => ?_⟩
  refine GC.step (g165 G1 u v (by omega) (by omega)) Y alln fun _ h2 bs2 G2 Y ⟨e1, e2⟩ => ⟨_, e1, ?_⟩
  subst e2
  exact ⟨bs2, _, _, 0, Y, rfl, k1 c c2 (by omega)⟩
theorem ok102 {R : Gr → Int → Prop} (hr : G.room 1) (k0 : G.hasE e = false → R G 2) (k1 : G.hasE e = true → R (G.dropE e) 0) : Ok102 G e R := by
  intro h b bs hp
  obtain ⟨r1, r2, r3⟩ := hr
  have Y : Sy h _ h [_] := Sy.startM hp rfl
  apply calls102
  unfold S102
  refine GC.step (g162 G) Y alln fun _ h1 bs1 G1 Y ⟨e1, e2⟩ => ⟨false, e1, cnd_f rfl ?_⟩
  subst e2
  refine edge_step Y (by omega) (fun c => ⟨_, rfl, cnd_t rfl ⟨bs1, G1, 2, Y, rfl, k0 c⟩⟩) fun eb eo c _ _ => ⟨_, rfl, cnd_f rfl ?_⟩
  have c' := c
  simp only [Gr.hasE, Bool.and_eq_true, decide_eq_true_eq] at c'
  refine GC.step (g170 G1 e (by omega) c'.1.1 c'.1.2 (by omega)) Y alln fun _ h2 bs2 G2 Y ⟨e1, e2⟩ => ⟨e1, ?_⟩
  subst e2
  exact ⟨bs2, _, 0, Y, rfl, k1 c⟩
theorem ok77 {R : Gr → Int → Int → Int → Prop} (hr : G.room 3) (k0 : G.hasE e = false → R G 0 0 2) (k2 : G.hasE e = true → (1024 ≤ G.ln ∨ 3072 ≤ G.le) → R G 0 0 3)
    (k1 : G.hasE e = true → G.ln < 1024 → G.le < 3072 → R (G.splitG e) ((G.nodes.length : Int) + 1) ((G.edges.length : Int) + 1) 0) : Ok77 G e R := by
  intro h b bs hp
  obtain ⟨r1, r2, r3⟩ := hr
  have Y : Sy h _ h [_] := Sy.startM hp rfl
  apply calls77
  unfold S77
  refine GC.step (g162 G) Y alln fun _ h1 bs1 G1 Y ⟨e1, e2⟩ => ⟨false, e1, cnd_f rfl ?_⟩
  subst e2
  refine edge_step Y (by omega) (fun c => ⟨_, rfl, cnd_t rfl ⟨bs1, G1, 0, 0, 2, Y, rfl, k0 c⟩⟩) fun eb eo c _ _ => ⟨_, rfl, cnd_f rfl ?_⟩
  have c' := c
  simp only [Gr.hasE, Bool.and_eq_true, decide_eq_true_eq] at c'
  refine ⟨b, 0, rfl, _, (cellG Y).1, cnd_dec (fun c3 => ⟨bs1, G1, 0, 0, 3, Y, rfl, k2 c (.inl c3)⟩) fun c3 => ?_⟩
  refine ⟨b, 0, rfl, _, (cellG Y).2, cnd_dec (fun c4 => ⟨bs1, G1, 0, 0, 3, Y, rfl, k2 c (.inr c4)⟩) fun c4 => ?_⟩
  refine edge_step Y (by omega) (fun c2 => by rw [c] at c2; cases c2) fun eb2 eo2 _ a1 a2 => ⟨_, rfl, eb2, eo2, rfl, _, a2, ?_⟩
  refine GC.step (g164 G1 (by omega) (by omega)) Y alln fun _ h2 bs2 G2 Y ⟨e1, e2⟩ => ⟨_, e1, ?_⟩
  subst e2
  have l1 : (Gr.addN G1).edges.length = G1.edges.length := by rw [Gr.addN, Gr.did_edges]
  have l2 : (Gr.addN G1).undo.length ≤ G1.undo.length + 1 := Gr.did_undo _ _
  refine GC.step (g165 G1.addN _ _ (by omega) (by omega)) Y alln fun _ h2 bs2 G2 Y ⟨e1, e2⟩ => ⟨_, e1, ?_⟩
  subst e2
  have l3 : (Gr.addE G1.addN (G1.nodes.length + 1) (G1.edgeAt e).2.1).edges.length = G1.edges.length + 1 := by rw [Gr.addE, Gr.did_edges]; simp [l1]
  have l4 : (Gr.addE G1.addN (G1.nodes.length + 1) (G1.edgeAt e).2.1).undo.length ≤ G1.addN.undo.length + 1 := Gr.did_undo _ _
  refine GC.step (g166 _ e 1 _ (by omega) c'.1.1 (by omega) (by omega) (by omega) (by omega)) Y alln fun _ h2 bs2 G2 Y ⟨e1, e2⟩ => ⟨e1, ?_⟩
  subst e2
  refine ⟨bs2, _, _, _, 0, Y, rfl, ?_⟩
  rw [l1]
  exact k1 c (by omega) (by omega)
end
end Go.Proofs.Ytmcloipjlihhlaa.N
