/- Package graph: moves, what undoes them, what is looked at, and the exported calls. Conditions: none. -/
import Derived.Test.YtmcloipjlihhlaaNGr
import Derived.Test.YtmcloipjlihhlaaTGraph
namespace Go.X
def Gr.node (G : Gr) (v : Int) : Bool := decide (1 ≤ v) && decide (v ≤ G.nodes.length) && G.nodes.getD (v - 1).toNat false
def Gr.hasE (G : Gr) (e : Int) : Bool := decide (1 ≤ e) && decide (e ≤ G.edges.length) && (G.edgeAt e).2.2
/-- The living edges at a node, by id. -/
def atL (v : Int) : Nat → List (Int × Int × Bool) → List Int
  | _, [] => []
  | i, x :: r => (if x.2.2 && (x.1 == v || x.2.1 == v) then [(i : Int) + 1] else []) ++ atL v (i + 1) r
def Gr.at (G : Gr) (v : Int) : List Int := atL v 0 G.edges
theorem atL_snoc (v : Int) : ∀ (l : List (Int × Int × Bool)) (i : Nat) (x : Int × Int × Bool), atL v i (l ++ [x]) = atL v i l ++ (if x.2.2 && (x.1 == v || x.2.1 == v) then [((i + l.length : Nat) : Int) + 1] else [])
  | [], i, x => by simp [atL]
  | y :: l, i, x => by
    simp only [List.cons_append, atL, atL_snoc v l (i + 1) x, List.append_assoc, List.length_cons]
    rw [show i + 1 + l.length = i + (l.length + 1) by omega]
theorem atL_len (v : Int) : ∀ (l : List (Int × Int × Bool)) (i : Nat), (atL v i l).length ≤ l.length
  | [], i => by simp [atL]
  | y :: l, i => by
    have := atL_len v l (i + 1)
    simp only [atL, List.length_append, List.length_cons]
    split <;> simp <;> omega
theorem take_snoc {α : Type} {l : List α} {i : Nat} {x : α} (h : l[i]? = some x) : l.take (i + 1) = l.take i ++ [x] := by
  rw [List.take_add_one, h]; rfl
/-- Gone back. -/
def Gr.undo1 (G : Gr) : Und → Gr
  | .popN => { G with nodes := G.nodes.take (G.nodes.length - 1), ln := w64 (G.ln - 1) }
  | .popE => { G with edges := G.edges.take (G.edges.length - 1), le := w64 (G.le - 1) }
  | .ends e en v => G.setEnd e en v
  | .edge e => G.setE e true 1
  | .node v => G.setN v true 1
  | .any => G
/-- That can be done. -/
def Gr.can (G : Gr) : Und → Prop
  | .popN => 0 < G.nodes.length
  | .popE => 0 < G.edges.length
  | .ends e en _ => 1 ≤ e ∧ e ≤ G.edges.length ∧ 0 ≤ en ∧ en ≤ 1
  | .edge e => 1 ≤ e ∧ e ≤ G.edges.length
  | .node v => 1 ≤ v ∧ v ≤ G.nodes.length
  | .any => False
end Go.X
namespace Go.Proofs.Ytmcloipjlihhlaa.N
open Go.Proofs.Ytmcloipjlihhlaa
open Go.X

section
variable {h0 h : Heap} {M H : List Nat} {B : List Ck} {b : Nat} {bs : List Nat} {G : Gr} {K : Value → Heap → Prop}
/-- The graph is looked at. -/
theorem grv (Y : Sy h0 M h (Ck.gr b bs G :: B)) : ∃ nA nL nC eA eL eC uA uL uC mA mL mC, Hp h [Ck.vob b 0 [.bool true, .slice nA nL nC, .slice eA eL eC, .int .i64 G.ln, .int .i64 G.le, .slice uA uL uC, .slice mA mL mC, .int .i64 G.last],
    Ck.vw eB nA nL nC G.nodes, Ck.vw e2B eA eL eC G.edges, Ck.vw eP mA mL mC G.marks] := by
  obtain ⟨nA, nL, nC, eA, eL, eC, uA, uL, uC, rs, mA, mL, mC, Y⟩ := (Sy.startM (Hp.one (Y.ok (k := 0) rfl)) rfl : Sy h (owns [Ck.gr b bs G]) h [Ck.gr b bs G]).openG
  have Y : Sy _ _ h [_, _, _, _, _] := (((Y.turn 0 rfl To.obvob).turn 1 rfl To.slvw).turn 2 rfl To.slvw).turn 4 rfl To.slvw
  exact ⟨_, _, _, _, _, _, _, _, _, _, _, _, (Y.pick [0, 1, 2, 4] rfl).hp⟩
theorem cellG (Y : Sy h0 M h (Ck.gr b bs G :: B)) : hcell h b 3 = some (.int .i64 G.ln) ∧ hcell h b 4 = some (.int .i64 G.le) := by
  obtain ⟨nA, nL, nC, eA, eL, eC, uA, uL, uC, rs, mA, mL, mC, Y⟩ := Y.openG
  exact ⟨Y.cellO 0 rfl 3 rfl, Y.cellO 0 rfl 4 rfl⟩
end

theorem t167 (G : Gr) (v : Int) (hn : G.nodes.length < 1000000000000) : T167v true G.nodes G.edges G.ln G.le G.marks G.last v (fun r => r = G.node v) := by
  unfold T167v
  refine cnd_dec (fun h1 => cnd_dec (fun h2 => ?_) fun h2 => ?_) fun h1 => ?_
  · have hw : IntKind.i64.wrap (v - 1) = v - 1 := wr (by omega) (by omega)
    rw [hw]
    refine ⟨by omega, by omega, fun x hx => ?_⟩
    have h3 : G.nodes.getD (v - 1).toNat false = x := by rw [List.getD_eq_getElem?_getD, hx]; rfl
    have h1' : 1 ≤ v := by omega
    have h2' : v ≤ G.nodes.length := by omega
    rw [Gr.node, h3, decide_eq_true h1', decide_eq_true h2']; rfl
  · have h2' : ¬ v ≤ G.nodes.length := by omega
    simp [Gr.node, h2']
  · have h1' : ¬ 1 ≤ v := by omega
    simp [Gr.node, h1']
theorem g167 (G : Gr) (v : Int) (hn : G.nodes.length < 1000000000000) : GC 167 [.int .i64 v] G fun r G' => r = .bool (G.node v) ∧ G' = G := by
  intro h b bs hp
  have Y : Sy h bs h [_] := Sy.startM hp owns_gr
  obtain ⟨nA, nL, nC, eA, eL, eC, uA, uL, uC, mA, mL, mC, H⟩ := grv Y
  exact (ok167v (t167 G v hn) h b 0 nA nL nC eA eL eC uA uL uC mA mL mC H).mono fun r h' ⟨x, P, e, q⟩ => ⟨bs, G, Y.gr P.fr, by rw [e, q], rfl⟩
theorem t168 (G : Gr) (v : Int) (hn : G.edges.length < 1000000000000) : T168v true G.nodes G.edges G.ln G.le G.marks G.last v (fun r => r = G.at v) := by
  unfold T168v
  refine ⟨fun l x => 0 ≤ x ∧ x ≤ G.edges.length ∧ l = atL v 0 (G.edges.take x.toNat), fun _ x => G.edges.length - x.toNat, ⟨by omega, by omega, by simp [atL]⟩, ?_⟩
  rintro l x ⟨h1, h2, rfl⟩
  refine cnd_dec (fun h3 => ?_) fun h3 => ?_
  · have hw : IntKind.i64.wrap (x + 1) = x + 1 := wr (by omega) (by omega)
    rw [hw]
    refine ⟨h1, h3, fun y hy => ?_⟩
    have et : (x + 1).toNat = x.toNat + 1 := by omega
    have es := take_snoc hy
    have en := atL_snoc v (G.edges.take x.toNat) 0 y
    rw [← es, ← et] at en
    have el : (G.edges.take x.toNat).length = x.toNat := by rw [List.length_take]; omega
    have ll := atL_len v (G.edges.take x.toNat) 0
    rw [el] at en ll
    have ex : (((0 + x.toNat : Nat) : Int) + 1) = x + 1 := by omega
    rw [ex] at en
    have ms : G.edges.length - (x + 1).toNat < G.edges.length - x.toNat := by omega
    refine cnd_b (fun c1 => ?_) fun c1 => ?_
    · refine cnd_eq (fun c2 => ⟨by omega, ⟨by omega, by omega, ?_⟩, ms⟩) fun c2 => ⟨fun l2 => l2 = atL v 0 (G.edges.take (x + 1).toNat), cnd_eq (fun c3 => ⟨by omega, ?_⟩) fun c3 => ?_, ?_⟩
      · rw [en]; simp [c1, c2]
      · rw [en]; simp [c1, c3]
      · rw [en]; simp [c1, c2, c3]
      · rintro _ rfl
        exact ⟨⟨by omega, by omega, rfl⟩, ms⟩
    · refine ⟨⟨by omega, by omega, ?_⟩, ms⟩
      rw [en]; simp [c1]
  · have : x.toNat = G.edges.length := by omega
    rw [this, List.take_length]; rfl
theorem g168 (G : Gr) (v : Int) (hn : G.edges.length < 1000000000000) : ∀ (h : Heap) (b : Nat) (bs : List Nat), Hp h [Ck.gr b bs G] →
    CallsH Try.prog 168 #[.pointer (some ⟨b, 0, none⟩), .int .i64 v] h fun r h' => ∃ a n c, Sy h [] h' [Ck.sl eI 3 a n c (G.at v)] ∧ r = .slice a n c := by
  intro h b bs hp
  have Y : Sy h bs h [_] := Sy.startM hp owns_gr
  obtain ⟨nA, nL, nC, eA, eL, eC, uA, uL, uC, mA, mL, mC, H⟩ := grv Y
  exact (ok168v (t168 G v hn) h b 0 nA nL nC eA eL eC uA uL uC mA mL mC H).mono fun r h' ⟨a, n, c, l, P, e, q⟩ => by subst q; exact ⟨a, n, c, P, e⟩
theorem edge_step {h0 h : Heap} {M H : List Nat} {B : List Ck} {b : Nat} {bs : List Nat} {G : Gr} {K : Value → Heap → Prop} {e : Int} (Y : Sy h0 M h (Ck.gr b bs G :: B)) (hn : G.edges.length < 1000000000000)
    (k0 : G.hasE e = false → K (.pointer none) h)
    (k1 : ∀ eb eo, G.hasE e = true → hcell h eb eo = some (.int .i64 (G.edgeAt e).1) → hcell h eb (eo + 1) = some (.int .i64 (G.edgeAt e).2.1) → K (.pointer (some ⟨eb, eo, none⟩)) h) :
    callX Try.prog 163 #[.pointer (some ⟨b, 0, none⟩), .int .i64 e] h H K := by
  obtain ⟨nA, nL, nC, eA, eL, eC, uA, uL, uC, rs, mA, mL, mC, Y⟩ := Y.openG
  obtain rfl := Y.lenS 2 rfl
  refine callX_sy (MA := []) (R := fun v h' => h' = h ∧ ((G.hasE e = false ∧ v = .pointer none) ∨ ∃ eb eo, G.hasE e = true ∧ hcell h eb eo = some (.int .i64 (G.edgeAt e).1) ∧ hcell h eb (eo + 1) = some (.int .i64 (G.edgeAt e).2.1) ∧ v = .pointer (some ⟨eb, eo, none⟩)))
    (calls163 _ _ ?_) (fun v h' r => r.1 ▸ Fr.refl _ _) (fun _ _ q => by cases q) ?_
  · unfold S163
    refine cnd_dec (fun c => ⟨rfl, .inl ⟨?_, rfl⟩⟩) fun c => ?_
    · have : ¬ 1 ≤ e := by omega
      simp [Gr.hasE, this]
    · refine ⟨b, 0, rfl, _, _, _, Y.cellO 0 rfl 2 rfl, cnd_dec (fun c2 => ⟨rfl, .inl ⟨?_, rfl⟩⟩) fun c2 => ?_⟩
      · have : ¬ e ≤ G.edges.length := by omega
        simp [Gr.hasE, this]
      · have hw : IntKind.i64.wrap (e - 1) = e - 1 := wr (by omega) (by omega)
        have q1 : 0 ≤ IntKind.i64.wrap (e - 1) := by rw [hw]; omega
        have q2 : IntKind.i64.wrap (e - 1) < (G.edges.length : Int) := by rw [hw]; omega
        obtain ⟨nb, ha, _, x, hx⟩ := Y.atS 2 rfl q1 q2
        have ed : G.edgeAt e = x := by
          rw [hw] at hx
          rw [Gr.edgeAt, List.getD_eq_getElem?_getD, hx]; rfl
        have he : G.hasE e = x.2.2 := by
          have a1 : 1 ≤ e := by omega
          have a2 : e ≤ G.edges.length := by omega
          simp [Gr.hasE, a1, a2, ed]
        refine ⟨b, 0, rfl, _, _, _, Y.cellO 0 rfl 2 rfl, nb, 0, ha, q1, q2, x.2.2, Y.cellS 2 rfl ha (t := 2) hx rfl, cnd_not (fun c3 => ⟨rfl, .inl ⟨by rw [he, c3], rfl⟩⟩) fun c3 => ?_⟩
        refine ⟨b, 0, rfl, _, _, _, Y.cellO 0 rfl 2 rfl, nb, 0, ha, q1, q2, rfl, .inr ⟨nb, _, by rw [he, c3], ?_, ?_, rfl⟩⟩
        · rw [ed]; exact Y.cellS 2 rfl ha (t := 0) hx rfl
        · rw [ed]; exact Y.cellS 2 rfl ha (t := 1) hx rfl
  · rintro v h' ⟨rfl, ⟨e1, rfl⟩ | ⟨eb, eo, e1, e2, e3, rfl⟩⟩
    · exact k0 e1
    · exact k1 eb eo e1 e2 e3
theorem g166 (G : Gr) (e en v : Int) (hu : G.undo.length + 1 < 1000000000000) (h1 : 1 ≤ e) (h2 : e ≤ G.edges.length) (h3 : G.edges.length < 1000000000000) (e0 : 0 ≤ en) (e1 : en ≤ 1) :
    GC 166 [.int .i64 e, .int .i64 en, .int .i64 v] G fun r G' => r = .tuple #[] ∧ G' = G.move e en v := by
  intro h b bs hp
  have Y0 : Sy h bs h [_] := Sy.startM hp owns_gr
  obtain ⟨nA, nL, nC, eA, eL, eC, uA, uL, uC, rs, mA, mL, mC, Y⟩ := Y0.openG
  have Y : Sy h bs h [_, _, _, _, _] := Y
  obtain rfl := Y.lenS 2 rfl
  have hw : IntKind.i64.wrap (e - 1) = e - 1 := wr (by omega) (by omega)
  apply calls166
  unfold S166
  intro hv
  have Y : Sy _ _ hv [_, _, _, _, _, _] := Y.newO _
  intro hv2
  have Y : Sy _ _ hv2 [_, _, _, _, _, _, _] := Y.newO _
  have q1 : 0 ≤ IntKind.i64.wrap (e - 1) := by rw [hw]; omega
  have q2 : IntKind.i64.wrap (e - 1) < (G.edges.length : Int) := by rw [hw]; omega
  obtain ⟨nb, ha, _, x, hx⟩ := Y.atS 2 rfl q1 q2
  have e3 : en < ((2 : Nat) : Int) := by omega
  have ed : G.edgeAt e = x := by
    have hx := hx
    rw [hw] at hx
    rw [Gr.edgeAt, List.getD_eq_getElem?_getD, hx]; rfl
  have c01 : en = 0 ∨ en = 1 := by omega
  have hc : (e2B.enc x)[en.toNat]? = some (.int .i64 (endOf x en)) := by
    rcases c01 with rfl | rfl <;> rfl
  have hs : e2B.enc (putEnd x en v) = (e2B.enc x).set en.toNat (.int .i64 v) := by
    rcases c01 with rfl | rfl <;> rfl
  have ht : en.toNat < e2B.sz := by show en.toNat < 3; omega
  have hc2 := Y.cellS 2 rfl ha hx hc
  refine ⟨b, 0, rfl, _, _, _, Y.cellO 0 rfl 2 rfl, e, Y.cellO 5 rfl 0 rfl, en, Y.cellO 6 rfl 0 rfl, nb, 0, ha, q1, q2, e0, e3, endOf x en, by rw [Nat.mul_one]; exact hc2, ?_⟩
  have F0 : Fr [] hv2 hv2 := Fr.refl _ _
  intro hv3
  have F : Fr [] hv2 hv3 := F0.pushr _
  have Y : Sy _ _ hv3 [_, _, _, _, _, _, _, _] := Y.newO _
  refine ⟨F, ⟨_, Y.cellO 7 rfl 0 rfl⟩, Y.freeO 7 rfl _, ?_⟩
  intro hv4
  have Y : Sy _ _ hv4 [_, _, _, _, _, _, _, _] := Y.stO 7 rfl 0 _
  have hc3 := Y.cellS 2 rfl ha hx hc
  refine ⟨b, 0, rfl, _, _, _, Y.cellO 0 rfl 2 rfl, e, Y.cellO 5 rfl 0 rfl, en, Y.cellO 6 rfl 0 rfl, nb, 0, ha, q1, q2, e0, e3, ⟨_, by rw [Nat.mul_one]; exact hc3⟩, Y.freeS 2 rfl ha _, ?_⟩
  intro hv5
  have Y1 := Y.stS 2 rfl ha (t := en.toNat) (putEnd x en v) hx ht hs
  have e5 : hv5 = hset hv4 nb (0 + (IntKind.i64.wrap (e - 1)).toNat * e2B.sz + en.toNat) (.int .i64 v) := by
    show hset hv4 nb (0 + (IntKind.i64.wrap (e - 1)).toNat * 3 + en.toNat * 1) (.int .i64 v) = _
    rw [Nat.mul_one]; rfl
  rw [← e5] at Y1
  clear_value hv5
  have Y : Sy _ _ hv5 [_, _, _, _, _, _, _, _] := Y1
  have Y : Sy _ _ hv5 [_, _, _, _, _, _, _, _] := Y.pick [7, 5, 6, 0, 1, 2, 3, 4] rfl
  have Y : Sy _ _ hv5 (Ck.fv ⟨.func 214, #[], #[.pointer (some ⟨hv2.size, 0, none⟩), .pointer (some ⟨h.size, 0, none⟩), .pointer (some ⟨hv.size, 0, none⟩)], [hv2.size, h.size, hv.size]⟩ (.ends e en (endOf x en)) :: [_, _, _, _, _]) :=
    Sy.pack (A := [_, _, _]) Y rfl rfl ⟨_, _, _, rfl, Y.ok (k := 0) rfl, Y.ok (k := 1) rfl, Y.ok (k := 2) rfl⟩
  have Y : Sy _ _ hv5 [_, _, _, _, _, _] := Y.pick [1, 2, 3, 4, 5, 0] rfl
  have Y := Sy.packG { G with edges := G.edges.set (IntKind.i64.wrap (e - 1)).toNat (putEnd x en v) } (B := [_]) Y
  refine did_step (r := ⟨.func 214, #[], #[.pointer (some ⟨hv2.size, 0, none⟩), .pointer (some ⟨h.size, 0, none⟩), .pointer (some ⟨hv.size, 0, none⟩)], [hv2.size, h.size, hv.size]⟩) Y hu alln ?_
  intro hv6 bs' Y
  refine ⟨rfl, bs', _, Y, rfl, ?_⟩
  rw [set_modify (f := fun x => putEnd x en v) hx]
  simp only [Gr.move, Gr.setEnd, hw, ed]
end Go.Proofs.Ytmcloipjlihhlaa.N

/- Package graph: what undoes something; the exported calls. Conditions: none. -/
namespace Go.X
/-- There is room for k more. -/
def Gr.room (G : Gr) (k : Nat) : Prop := G.nodes.length + k < 1000000000 ∧ G.edges.length + k < 1000000000 ∧ G.undo.length + k < 1000000000
def Gr.splitG (G : Gr) (e : Int) : Gr := ((G.addN).addE (G.nodes.length + 1) (G.edgeAt e).2.1).move e 1 (G.nodes.length + 1)
def Gr.ends1 (G : Gr) (e v : Int) : Int := if (G.edgeAt e).2.1 == v then 1 else 0
def Gr.unsplitG (G : Gr) (v k f : Int) : Gr := (((G.move k (G.ends1 k v) (w64 (w64 ((G.edgeAt f).1 + (G.edgeAt f).2.1) - v))).dropE f).dropN v)
def Gr.dropAll (G : Gr) (v : Int) : Gr := ((G.at v).foldl Gr.dropE G).dropN v
def Gr.markG (G : Gr) : Gr := { G with last := w64 (G.last + 1), marks := G.marks ++ [(w64 (G.last + 1), (G.undo.length : Int))] }
theorem Gr.did_nodes (G : Gr) (u : Und) : (G.did u).nodes = G.nodes := by unfold Gr.did; split <;> rfl
theorem Gr.did_edges (G : Gr) (u : Und) : (G.did u).edges = G.edges := by unfold Gr.did; split <;> rfl
theorem Gr.did_ln (G : Gr) (u : Und) : (G.did u).ln = G.ln := by unfold Gr.did; split <;> rfl
theorem Gr.did_le (G : Gr) (u : Und) : (G.did u).le = G.le := by unfold Gr.did; split <;> rfl
theorem Gr.did_marks (G : Gr) (u : Und) : (G.did u).marks = G.marks := by unfold Gr.did; split <;> rfl
theorem Gr.did_last (G : Gr) (u : Und) : (G.did u).last = G.last := by unfold Gr.did; split <;> rfl
theorem Gr.did_undo (G : Gr) (u : Und) : (G.did u).undo.length ≤ G.undo.length + 1 := by unfold Gr.did; split <;> simp
theorem Gr.at_range (v : Int) : ∀ (l : List (Int × Int × Bool)) (i : Nat) (e : Int), e ∈ atL v i l → (i : Int) + 1 ≤ e ∧ e ≤ (i : Int) + l.length
  | [], i, e, h => by simp [atL] at h
  | y :: l, i, e, h => by
    simp only [atL, List.mem_append] at h
    rcases h with h | h
    · split at h
      · simp at h; subst h; simp; omega
      · simp at h
    · have := Gr.at_range v l (i + 1) e h
      simp only [List.length_cons]
      omega
end Go.X
namespace Go.Proofs.Ytmcloipjlihhlaa.N
open Go.Proofs.Ytmcloipjlihhlaa
open Go.X

/-- What undoes something, called. -/
theorem undo_calls (G : Gr) (u : Und) (hc : G.can u) (hr : G.room 1) : ∀ (h : Heap) (b : Nat) (bs : List Nat) (r : FnR), Hp h [Ck.gr b bs G] → Means h r u →
    ∃ g, r.f = .func g ∧ r.x = #[] ∧ (g = 212 ∨ g = 213 ∨ g = 214 ∨ g = 215 ∨ g = 216) ∧ CallsH Try.prog g ([Value.pointer (some ⟨b, 0, none⟩)] ++ r.y.toList).toArray h fun v h' => ∃ bs', Sy h bs h' [Ck.gr b bs' (G.undo1 u)] ∧ v = .tuple #[] := by
  intro h b bs r hp m
  have Y0 : Sy h bs h [_] := Sy.startM hp owns_gr
  obtain ⟨r1, r2, r3⟩ := hr
  obtain ⟨nA, nL, nC, eA, eL, eC, uA, uL, uC, rs, mA, mL, mC, Y⟩ := Y0.openG
  have Y : Sy h bs h [_, _, _, _, _] := Y
  obtain rfl := Y.lenS 1 rfl
  obtain rfl := Y.lenS 2 rfl
  cases u with
  | popN =>
    subst m
    refine ⟨212, rfl, rfl, .inl rfl, calls212 _ ?_⟩
    unfold S212
    have hc : 0 < G.nodes.length := hc
    have hw : IntKind.i64.wrap ((G.nodes.length : Int) - 1) = (G.nodes.length : Int) - 1 := wr (by omega) (by omega)
    have cp := Y.capS 1 rfl
    refine ⟨b, 0, rfl, _, _, _, Y.cellO 0 rfl 1 rfl, b, 0, rfl, _, _, _, Y.cellO 0 rfl 1 rfl, by rw [hw]; omega, by rw [hw]; omega, b, 0, rfl, ⟨_, Y.cellO 0 rfl 1 rfl⟩, Y.freeO 0 rfl _, ?_⟩
    intro hv
    have Y1 := Y.stO 0 rfl 1 (.slice (if nC = 0 then nA else Option.map (fun addr => Addr.add addr (0 * 1)) nA) ((Int.toNat (IntKind.i64.wrap ((G.nodes.length : Int) - (1 : Int)))) - 0) (nC - 0))
    have Y : Sy _ _ hv [_, _, _, _, _] := Y1
    have et : (IntKind.i64.wrap ((G.nodes.length : Int) - 1)).toNat - 0 = G.nodes.length - 1 := by rw [hw]; omega
    rw [slice0, et] at Y
    have Y : Sy _ _ hv [_, _, _, _, _] := Y.shrS 1 rfl (G.nodes.length - 1) (by omega)
    refine ⟨b, 0, rfl, _, Y.cellO 0 rfl 3 rfl, b, 0, rfl, ⟨_, Y.cellO 0 rfl 3 rfl⟩, Y.freeO 0 rfl _, ?_⟩
    intro hv2
    have Y : Sy _ _ hv2 [_, _, _, _, _] := Y.stO 0 rfl 3 _
    exact ⟨_, Sy.packG (G.undo1 .popN) (B := []) Y, rfl⟩
  | popE =>
    subst m
    refine ⟨213, rfl, rfl, .inr (.inl rfl), calls213 _ ?_⟩
    unfold S213
    have hc : 0 < G.edges.length := hc
    have hw : IntKind.i64.wrap ((G.edges.length : Int) - 1) = (G.edges.length : Int) - 1 := wr (by omega) (by omega)
    have cp := Y.capS 2 rfl
    refine ⟨b, 0, rfl, _, _, _, Y.cellO 0 rfl 2 rfl, b, 0, rfl, _, _, _, Y.cellO 0 rfl 2 rfl, by rw [hw]; omega, by rw [hw]; omega, b, 0, rfl, ⟨_, Y.cellO 0 rfl 2 rfl⟩, Y.freeO 0 rfl _, ?_⟩
    intro hv
    have Y1 := Y.stO 0 rfl 2 (.slice (if eC = 0 then eA else Option.map (fun addr => Addr.add addr (0 * 3)) eA) ((Int.toNat (IntKind.i64.wrap ((G.edges.length : Int) - (1 : Int)))) - 0) (eC - 0))
    have Y : Sy _ _ hv [_, _, _, _, _] := Y1
    have et : (IntKind.i64.wrap ((G.edges.length : Int) - 1)).toNat - 0 = G.edges.length - 1 := by rw [hw]; omega
    rw [slice0, et] at Y
    have Y : Sy _ _ hv [_, _, _, _, _] := Y.shrS 2 rfl (G.edges.length - 1) (by omega)
    refine ⟨b, 0, rfl, _, Y.cellO 0 rfl 4 rfl, b, 0, rfl, ⟨_, Y.cellO 0 rfl 4 rfl⟩, Y.freeO 0 rfl _, ?_⟩
    intro hv2
    have Y : Sy _ _ hv2 [_, _, _, _, _] := Y.stO 0 rfl 4 _
    exact ⟨_, Sy.packG (G.undo1 .popE) (B := []) Y, rfl⟩
  | ends e en v =>
    obtain ⟨p, q, s, rfl, b1, b2, b3⟩ := m
    obtain ⟨h1, h2, e0, e1⟩ := hc
    refine ⟨214, rfl, rfl, .inr (.inr (.inl rfl)), calls214 _ _ _ _ ?_⟩
    unfold S214
    have hw : IntKind.i64.wrap (e - 1) = e - 1 := wr (by omega) (by omega)
    have q1 : 0 ≤ IntKind.i64.wrap (e - 1) := by rw [hw]; omega
    have q2 : IntKind.i64.wrap (e - 1) < (G.edges.length : Int) := by rw [hw]; omega
    obtain ⟨nb, ha, _, x, hx⟩ := Y.atS 2 rfl q1 q2
    have e3 : en < ((2 : Nat) : Int) := by omega
    have c01 : en = 0 ∨ en = 1 := by omega
    have hc : (e2B.enc x)[en.toNat]? = some (.int .i64 (endOf x en)) := by
      rcases c01 with rfl | rfl <;> rfl
    have hs : e2B.enc (putEnd x en v) = (e2B.enc x).set en.toNat (.int .i64 v) := by
      rcases c01 with rfl | rfl <;> rfl
    have ht : en.toNat < e2B.sz := by show en.toNat < 3; omega
    have hc2 := Y.cellS 2 rfl ha hx hc
    refine ⟨b, 0, rfl, _, _, _, Y.cellO 0 rfl 2 rfl, q, 0, rfl, e, hcell_of b2 0, s, 0, rfl, en, hcell_of b3 0, p, 0, rfl, v, hcell_of b1 0, nb, 0, ha, q1, q2, e0, e3, ⟨_, by rw [Nat.mul_one]; exact hc2⟩, Y.freeS 2 rfl ha _, ?_⟩
    intro hv5
    have Y1 := Y.stS 2 rfl ha (t := en.toNat) (putEnd x en v) hx ht hs
    have e5 : hv5 = hset h nb (0 + (IntKind.i64.wrap (e - 1)).toNat * e2B.sz + en.toNat) (.int .i64 v) := by
      show hset h nb (0 + (IntKind.i64.wrap (e - 1)).toNat * 3 + en.toNat * 1) (.int .i64 v) = _
      rw [Nat.mul_one]; rfl
    rw [← e5] at Y1
    clear_value hv5
    have Y : Sy _ _ hv5 [_, _, _, _, _] := Y1
    have Y := Sy.packG { G with edges := G.edges.set (IntKind.i64.wrap (e - 1)).toNat (putEnd x en v) } (B := []) Y
    rw [set_modify (f := fun x => putEnd x en v) hx] at Y
    have eg : G.undo1 (.ends e en v) = { G with edges := G.edges.modify (IntKind.i64.wrap (e - 1)).toNat fun x => putEnd x en v } := by simp only [Gr.undo1, Gr.setEnd, hw]
    rw [eg]
    exact ⟨_, Y, rfl⟩
  | edge e =>
    obtain ⟨p, rfl, b1⟩ := m
    obtain ⟨h1, h2⟩ := hc
    refine ⟨215, rfl, rfl, .inr (.inr (.inr (.inl rfl))), calls215 _ _ ?_⟩
    unfold S215
    have hw : IntKind.i64.wrap (e - 1) = e - 1 := wr (by omega) (by omega)
    have q1 : 0 ≤ IntKind.i64.wrap (e - 1) := by rw [hw]; omega
    have q2 : IntKind.i64.wrap (e - 1) < (G.edges.length : Int) := by rw [hw]; omega
    obtain ⟨nb, ha, _, x, hx⟩ := Y.atS 2 rfl q1 q2
    refine ⟨b, 0, rfl, _, _, _, Y.cellO 0 rfl 2 rfl, p, 0, rfl, e, hcell_of b1 0, nb, 0, ha, q1, q2, Y.cellEx 2 rfl ha (t := 2) (by omega) (by decide), Y.freeS 2 rfl ha _, ?_⟩
    intro hv2
    have Y : Sy _ _ hv2 [_, _, _, _, _] := Y.stS 2 rfl ha (t := 2) (x.1, x.2.1, true) hx (by decide) rfl
    refine ⟨b, 0, rfl, _, Y.cellO 0 rfl 4 rfl, b, 0, rfl, ⟨_, Y.cellO 0 rfl 4 rfl⟩, Y.freeO 0 rfl _, ?_⟩
    intro hv3
    have Y : Sy _ _ hv3 [_, _, _, _, _] := Y.stO 0 rfl 4 _
    have Y := Sy.packG ({ G with edges := G.edges.set (IntKind.i64.wrap (e - 1)).toNat (x.1, x.2.1, true), le := w64 (G.le + 1) }) (B := []) Y
    rw [set_modify (f := fun x => (x.1, x.2.1, true)) hx] at Y
    have eg : G.undo1 (.edge e) = { G with edges := G.edges.modify (IntKind.i64.wrap (e - 1)).toNat fun x => (x.1, x.2.1, true), le := w64 (G.le + 1) } := by simp only [Gr.undo1, Gr.setE, hw]
    rw [eg]
    exact ⟨_, Y, rfl⟩
  | node v =>
    obtain ⟨p, rfl, b1⟩ := m
    obtain ⟨h1, h2⟩ := hc
    refine ⟨216, rfl, rfl, .inr (.inr (.inr (.inr rfl))), calls216 _ _ ?_⟩
    unfold S216
    have hw : IntKind.i64.wrap (v - 1) = v - 1 := wr (by omega) (by omega)
    have q1 : 0 ≤ IntKind.i64.wrap (v - 1) := by rw [hw]; omega
    have q2 : IntKind.i64.wrap (v - 1) < (G.nodes.length : Int) := by rw [hw]; omega
    obtain ⟨nb, ha, _, x, hx⟩ := Y.atS 1 rfl q1 q2
    refine ⟨b, 0, rfl, _, _, _, Y.cellO 0 rfl 1 rfl, p, 0, rfl, v, hcell_of b1 0, nb, 0, ha, q1, q2, Y.cellEx 1 rfl ha (t := 0) (by omega) (by decide), Y.freeS 1 rfl ha _, ?_⟩
    intro hv2
    have Y : Sy _ _ hv2 [_, _, _, _, _] := Y.st1 1 rfl ha true (by omega) rfl
    refine ⟨b, 0, rfl, _, Y.cellO 0 rfl 3 rfl, b, 0, rfl, ⟨_, Y.cellO 0 rfl 3 rfl⟩, Y.freeO 0 rfl _, ?_⟩
    intro hv3
    have Y : Sy _ _ hv3 [_, _, _, _, _] := Y.stO 0 rfl 3 _
    have Y := Sy.packG ({ G with nodes := G.nodes.set (IntKind.i64.wrap (v - 1)).toNat true, ln := w64 (G.ln + 1) }) (B := []) Y
    have eg : G.undo1 (.node v) = { G with nodes := G.nodes.set (IntKind.i64.wrap (v - 1)).toNat true, ln := w64 (G.ln + 1) } := by simp only [Gr.undo1, Gr.setN, hw]
    rw [eg]
    exact ⟨_, Y, rfl⟩
  | any => exact hc.elim
section
variable {G : Gr} {e v u : Int}
theorem ok161 {R : Gr → Prop} (T : R ⟨[], [], 0, 0, [], [], 0⟩) : Ok161 R :=
  fun h _ => (g161 h).mono fun _ _ ⟨b, bs, P, e⟩ => ⟨b, bs, _, P, e, T⟩
theorem ok76 {R : Gr → Int → Int → Int → Prop} (hr : G.room 1) (k0 : G.hasE e = false → R G 0 0 2) (k1 : G.hasE e = true → R G (G.edgeAt e).1 (G.edgeAt e).2.1 0) : Ok76 G e R := by
  intro h b bs hp
  obtain ⟨r1, r2, r3⟩ := hr
  have Y : Sy h _ h [_] := Sy.startM hp rfl
  apply calls76
  unfold S76
  refine GC.step (g162 G) Y alln fun v h1 bs1 G1 Y ⟨e1, e2⟩ => ⟨false, e1, cnd_f rfl ?_⟩
  subst e2
  refine edge_step Y (by omega) (fun c => ⟨_, rfl, cnd_t rfl ⟨bs1, G1, 0, 0, 2, Y, rfl, k0 c⟩⟩) fun eb eo c _ _ => ⟨_, rfl, cnd_f rfl (edge_step Y (by omega) (fun c2 => by rw [c] at c2; cases c2) fun eb2 eo2 _ a1 a2 => ⟨_, rfl, eb2, eo2, rfl, _, a1, _, a2, ?_⟩)⟩
  intro hv4
  have Y : Sy _ _ hv4 [_, _] := Y.junk _
  intro hv5
  have Y : Sy _ _ hv5 [_, _] := ((Y.stJ 1 rfl _ _).stJ 1 rfl _ _)
  exact ⟨bs1, G1, _, _, _, Y.pick [0] rfl, rfl, k1 c⟩
theorem ok97 {R : Gr → Int → Int → Prop} (hr : G.room 1) (k0 : 1024 ≤ G.ln → R G 0 3) (k1 : G.ln < 1024 → R G.addN ((G.nodes.length : Int) + 1) 0) : Ok97 G R := by
  intro h b bs hp
  obtain ⟨r1, r2, r3⟩ := hr
  have Y : Sy h _ h [_] := Sy.startM hp rfl
  apply calls97
  unfold S97
  refine GC.step (g162 G) Y alln fun v h1 bs1 G1 Y ⟨e1, e2⟩ => ⟨false, e1, cnd_f rfl ?_⟩
  subst e2
  refine ⟨b, 0, rfl, _, (cellG Y).1, cnd_dec (fun c => ⟨bs1, G1, 0, 3, Y, rfl, k0 c⟩) fun c => ?_⟩
  refine GC.step (g164 G1 (by omega) (by omega)) Y alln fun v h2 bs2 G2 Y ⟨e1, e2⟩ => ⟨_, e1, ?_⟩
  subst e2
  exact ⟨bs2, _, _, 0, Y, rfl, k1 (by omega)⟩
theorem ok98 {R : Gr → Int → Int → Prop} (hr : G.room 1) (k0 : (G.node u = false ∨ G.node v = false) → R G 0 2) (k2 : G.node u = true → G.node v = true → 3072 ≤ G.le → R G 0 3) (k1 : G.node u = true → G.node v = true → G.le < 3072 → R (G.addE u v) ((G.edges.length : Int) + 1) 0) : Ok98 G u v R := by
  intro h b bs hp
  obtain ⟨r1, r2, r3⟩ := hr
  have Y : Sy h _ h [_] := Sy.startM hp rfl
  apply calls98
  unfold S98
  refine GC.step (g162 G) Y alln fun _ h1 bs1 G1 Y ⟨e1, e2⟩ => ⟨false, e1, cnd_f rfl ?_⟩
  subst e2
  refine GC.step (g167 G1 u (by omega)) Y alln fun _ h1 bs1 G2 Y ⟨e1, e2⟩ => ⟨_, e1, ?_⟩
  subst e2
  refine cnd_not (fun c => ⟨bs1, G2, 0, 2, Y, rfl, k0 (.inl c)⟩) fun c => ?_
  refine GC.step (g167 G2 v (by omega)) Y alln fun _ h1 bs1 G1 Y ⟨e1, e2⟩ => ⟨_, e1, ?_⟩
  subst e2
  refine cnd_not (fun c => ⟨bs1, G1, 0, 2, Y, rfl, k0 (.inr c)⟩) fun c2 => ?_
  refine ⟨b, 0, rfl, _, (cellG Y).2, cnd_dec (fun c3 => ⟨bs1, G1, 0, 3, Y, rfl, k2 c c2 c3⟩) fun c3 => ?_⟩
  refine GC.step (g165 G1 u v (by omega) (by omega)) Y alln fun _ h2 bs2 G2 Y ⟨e1, e2⟩ => ⟨_, e1, ?_⟩
  subst e2
  exact ⟨bs2, _, _, 0, Y, rfl, k1 c c2 (by omega)⟩
theorem ok102 {R : Gr → Int → Prop} (hr : G.room 1) (k0 : G.hasE e = false → R G 2) (k1 : G.hasE e = true → R (G.dropE e) 0) : Ok102 G e R := by
  intro h b bs hp
  obtain ⟨r1, r2, r3⟩ := hr
  have Y : Sy h _ h [_] := Sy.startM hp rfl
  apply calls102
  unfold S102
  refine GC.step (g162 G) Y alln fun _ h1 bs1 G1 Y ⟨e1, e2⟩ => ⟨false, e1, cnd_f rfl ?_⟩
  subst e2
  refine edge_step Y (by omega) (fun c => ⟨_, rfl, cnd_t rfl ⟨bs1, G1, 2, Y, rfl, k0 c⟩⟩) fun eb eo c _ _ => ⟨_, rfl, cnd_f rfl ?_⟩
  have c' := c
  simp only [Gr.hasE, Bool.and_eq_true, decide_eq_true_eq] at c'
  refine GC.step (g170 G1 e (by omega) c'.1.1 c'.1.2 (by omega)) Y alln fun _ h2 bs2 G2 Y ⟨e1, e2⟩ => ⟨e1, ?_⟩
  subst e2
  exact ⟨bs2, _, 0, Y, rfl, k1 c⟩
theorem ok103 {en : Int} {R : Gr → Int → Prop} (hr : G.room 1) (k0 : (G.hasE e = false ∨ G.node v = false ∨ en < 0 ∨ 1 < en) → R G 2) (k1 : G.hasE e = true → G.node v = true → 0 ≤ en → en ≤ 1 → R (G.move e en v) 0) : Ok103 G e en v R := by
  intro h b bs hp
  obtain ⟨r1, r2, r3⟩ := hr
  have Y : Sy h _ h [_] := Sy.startM hp rfl
  apply calls103
  unfold S103
  refine GC.step (g162 G) Y alln fun _ h1 bs1 G1 Y ⟨e1, e2⟩ => ⟨false, e1, cnd_f rfl ?_⟩
  subst e2
  refine edge_step Y (by omega) (fun c => ⟨_, rfl, cnd_t rfl ⟨bs1, G1, 2, Y, rfl, k0 (.inl c)⟩⟩) fun eb eo c _ _ => ⟨_, rfl, cnd_f rfl ?_⟩
  have c' := c
  simp only [Gr.hasE, Bool.and_eq_true, decide_eq_true_eq] at c'
  refine GC.step (g167 G1 v (by omega)) Y alln fun _ h1 bs1 G2 Y ⟨e1, e2⟩ => ⟨_, e1, ?_⟩
  subst e2
  refine cnd_not (fun c2 => ⟨bs1, G2, 2, Y, rfl, k0 (.inr (.inl c2))⟩) fun c2 => ?_
  refine cnd_dec (fun c3 => ⟨bs1, G2, 2, Y, rfl, k0 (.inr (.inr (.inl c3)))⟩) fun c3 => ?_
  refine cnd_dec (fun c4 => ⟨bs1, G2, 2, Y, rfl, k0 (.inr (.inr (.inr c4)))⟩) fun c4 => ?_
  refine GC.step (g166 G2 e en v (by omega) c'.1.1 c'.1.2 (by omega) (by omega) (by omega)) Y alln fun _ h2 bs2 G3 Y ⟨e1, e2⟩ => ⟨e1, ?_⟩
  subst e2
  exact ⟨bs2, _, 0, Y, rfl, k1 c c2 (by omega) (by omega)⟩
theorem ok77 {R : Gr → Int → Int → Int → Prop} (hr : G.room 3) (k0 : G.hasE e = false → R G 0 0 2) (k2 : G.hasE e = true → (1024 ≤ G.ln ∨ 3072 ≤ G.le) → R G 0 0 3)
    (k1 : G.hasE e = true → G.ln < 1024 → G.le < 3072 → R (G.splitG e) ((G.nodes.length : Int) + 1) ((G.edges.length : Int) + 1) 0) : Ok77 G e R := by
  intro h b bs hp
  obtain ⟨r1, r2, r3⟩ := hr
  have Y : Sy h _ h [_] := Sy.startM hp rfl
  apply calls77
  unfold S77
  refine GC.step (g162 G) Y alln fun _ h1 bs1 G1 Y ⟨e1, e2⟩ => ⟨false, e1, cnd_f rfl ?_⟩
  subst e2
  refine edge_step Y (by omega) (fun c => ⟨_, rfl, cnd_t rfl ⟨bs1, G1, 0, 0, 2, Y, rfl, k0 c⟩⟩) fun eb eo c _ _ => ⟨_, rfl, cnd_f rfl ?_⟩
  have c' := c
  simp only [Gr.hasE, Bool.and_eq_true, decide_eq_true_eq] at c'
  refine ⟨b, 0, rfl, _, (cellG Y).1, cnd_dec (fun c3 => ⟨bs1, G1, 0, 0, 3, Y, rfl, k2 c (.inl c3)⟩) fun c3 => ?_⟩
  refine ⟨b, 0, rfl, _, (cellG Y).2, cnd_dec (fun c4 => ⟨bs1, G1, 0, 0, 3, Y, rfl, k2 c (.inr c4)⟩) fun c4 => ?_⟩
  refine edge_step Y (by omega) (fun c2 => by rw [c] at c2; cases c2) fun eb2 eo2 _ a1 a2 => ⟨_, rfl, eb2, eo2, rfl, _, a2, ?_⟩
  refine GC.step (g164 G1 (by omega) (by omega)) Y alln fun _ h2 bs2 G2 Y ⟨e1, e2⟩ => ⟨_, e1, ?_⟩
  subst e2
  have l1 : (Gr.addN G1).edges.length = G1.edges.length := by rw [Gr.addN, Gr.did_edges]
  have l2 : (Gr.addN G1).undo.length ≤ G1.undo.length + 1 := Gr.did_undo _ _
  refine GC.step (g165 G1.addN _ _ (by omega) (by omega)) Y alln fun _ h2 bs2 G2 Y ⟨e1, e2⟩ => ⟨_, e1, ?_⟩
  subst e2
  have l3 : (Gr.addE G1.addN (G1.nodes.length + 1) (G1.edgeAt e).2.1).edges.length = G1.edges.length + 1 := by rw [Gr.addE, Gr.did_edges]; simp [l1]
  have l4 : (Gr.addE G1.addN (G1.nodes.length + 1) (G1.edgeAt e).2.1).undo.length ≤ G1.addN.undo.length + 1 := Gr.did_undo _ _
  refine GC.step (g166 _ e 1 _ (by omega) c'.1.1 (by omega) (by omega) (by omega) (by omega)) Y alln fun _ h2 bs2 G2 Y ⟨e1, e2⟩ => ⟨e1, ?_⟩
  subst e2
  refine ⟨bs2, _, _, _, 0, Y, rfl, ?_⟩
  rw [l1]
  exact k1 c (by omega) (by omega)
end
end Go.Proofs.Ytmcloipjlihhlaa.N

/- Package graph: edges at a node, unsplit, marks. Conditions: none. -/
namespace Go.Proofs.Ytmcloipjlihhlaa.N
open Go.Proofs.Ytmcloipjlihhlaa
open Go.X
theorem len2 {α : Type} : ∀ {l : List α}, l.length = 2 → ∃ a b, l = [a, b]
  | [a, b], _ => ⟨a, b, rfl⟩
section
variable {G : Gr} {e v u : Int}
/-- The edges at a node, as a slice of one's own. -/
theorem at_step {h0 h : Heap} {M H : List Nat} {B : List Ck} {b : Nat} {bs : List Nat} {K : Value → Heap → Prop} (Y : Sy h0 M h (Ck.gr b bs G :: B)) (hn : G.edges.length < 1000000000000)
    (k : ∀ h' a n c, Sy h0 M h' (Ck.gr b bs G :: B ++ [Ck.sl eI 3 a n c (G.at v)]) → K (.slice a n c) h') :
    callX Try.prog 168 #[.pointer (some ⟨b, 0, none⟩), .int .i64 v] h H K :=
  callX_sy (MA := []) (g168 G v hn h b bs (Hp.one (Y.ok (k := 0) rfl))) (fun _ _ ⟨_, _, _, p, _⟩ => p.fr) (fun _ _ q => by cases q) fun _ h' ⟨a, n, c, P, e⟩ => e ▸ k h' a n c (Y.callV P ⟨rfl, trivial⟩)
theorem ok78 {R : Gr → Int → Int → Prop} (hr : G.room 4) (k0 : G.node v = false → R G 0 2)
    (k2 : G.node v = true → (∀ k f, G.at v = [k, f] → (G.edgeAt k).1 = (G.edgeAt k).2.1 ∨ (G.edgeAt f).1 = (G.edgeAt f).2.1) → R G 0 10)
    (k1 : ∀ k f, G.node v = true → G.at v = [k, f] → (G.edgeAt k).1 ≠ (G.edgeAt k).2.1 → (G.edgeAt f).1 ≠ (G.edgeAt f).2.1 → R (G.unsplitG v k f) k 0)
    (hl : ∀ k ∈ G.at v, G.hasE k = true) : Ok78 G v R := by
  intro h b bs hp
  obtain ⟨r1, r2, r3⟩ := hr
  have Y : Sy h _ h [_] := Sy.startM hp rfl
  apply calls78
  unfold S78
  refine GC.step (g162 G) Y alln fun _ h1 bs1 G1 Y ⟨e1, e2⟩ => ⟨false, e1, cnd_f rfl ?_⟩
  subst e2
  refine GC.step (g167 G1 v (by omega)) Y alln fun _ h1 bs1 G2 Y ⟨e1, e2⟩ => ⟨_, e1, ?_⟩
  subst e2
  refine cnd_not (fun c => ⟨bs1, G2, 0, 2, Y, rfl, k0 c⟩) fun c => ?_
  refine at_step Y (by omega) fun h2 rA rL rC Y => ⟨_, _, _, rfl, ?_⟩
  have Y : Sy _ _ h2 [_, _] := Y
  obtain rfl := Y.lenS 1 rfl
  have out : ∀ {h'} , Sy h (owns [Ck.gr b bs G2]) h' [Ck.gr b bs1 G2, Ck.sl eI 3 rA (G2.at v).length rC (G2.at v)] → (∀ k f, G2.at v = [k, f] → (G2.edgeAt k).1 = (G2.edgeAt k).2.1 ∨ (G2.edgeAt f).1 = (G2.edgeAt f).2.1) → ∃ (gS2 : List Nat) (gG1 : Gr) (raV : Int) (rbV : Int), Sy h (owns [Ck.gr b bs G2]) h' [Ck.gr b gS2 gG1] ∧ (Value.tuple #[.int .i64 0, .int .i64 10] : Value) = .tuple #[.int .i64 raV, .int .i64 rbV] ∧ R gG1 raV rbV :=
    fun Y q => ⟨bs1, G2, 0, 10, Y.pick [0] rfl, rfl, k2 c q⟩
  refine cnd_ne (fun c2 => out Y fun k f q => by rw [q] at c2; simp at c2) fun c2 => ?_
  obtain ⟨k, f, hkf⟩ : ∃ k f, G2.at v = [k, f] := len2 (by omega)
  have hk := hl k (by simp [hkf])
  have hf := hl f (by simp [hkf])
  have x0 : (G2.at v)[(Int.toNat (0 : Int))]? = some k := by rw [hkf]; rfl
  have x1 : (G2.at v)[(Int.toNat (1 : Int))]? = some f := by rw [hkf]; rfl
  have l0 : (0 : Int) < ((G2.at v).length : Int) := by omega
  have l1 : (1 : Int) < ((G2.at v).length : Int) := by omega
  obtain ⟨rb, hb, _⟩ := Y.atS 1 rfl (Int.le_refl 0) l0
  have kr := hk
  have fr := hf
  simp only [Gr.hasE, Bool.and_eq_true, decide_eq_true_eq] at kr fr
  -- whether an edge is a loop
  have lp : ∀ {h' : Heap} {eb eo : Nat} {x y : Int} {K : Value → Heap → Prop}, hcell h' eb eo = some (.int .i64 x) → hcell h' eb (eo + 1) = some (.int .i64 y) → K (.bool (x == y)) h' → callX Try.prog 169 #[.pointer (some ⟨eb, eo, none⟩)] h' [] K := by
    intro h' eb eo x y K a1 a2 k
    refine callX_sy (MA := []) (R := fun w h2 => h2 = h' ∧ w = .bool (x == y)) (calls169 _ ?_) (fun _ _ r => r.1 ▸ Fr.refl _ _) alln ?_
    · unfold S169
      exact ⟨eb, eo, rfl, x, a1, eb, eo, rfl, y, a2, rfl, rfl⟩
    · rintro _ _ ⟨rfl, rfl⟩; exact k
  refine ⟨rb, 0, hb, Int.le_refl 0, l0, k, Y.cellS 1 rfl hb (t := 0) x0 rfl, ?_⟩
  refine edge_step Y (by omega) (fun c2 => by rw [hk] at c2; cases c2) fun eb eo _ a1 a2 => ⟨_, rfl, lp a1 a2 ⟨_, rfl, ?_⟩⟩
  refine cnd_eq (fun c3 => out Y fun k' f' q => by rw [hkf] at q; simp at q; obtain ⟨rfl, rfl⟩ := q; exact .inl c3) fun c3 => ?_
  refine ⟨rb, 0, hb, by omega, l1, f, Y.cellS 1 rfl hb (t := 0) x1 rfl, ?_⟩
  refine edge_step Y (by omega) (fun c2 => by rw [hf] at c2; cases c2) fun eb eo _ a1 a2 => ⟨_, rfl, lp a1 a2 ⟨_, rfl, ?_⟩⟩
  refine cnd_eq (fun c4 => out Y fun k' f' q => by rw [hkf] at q; simp at q; obtain ⟨rfl, rfl⟩ := q; exact .inr c4) fun c4 => ?_
  refine ⟨rb, 0, hb, by omega, l1, f, Y.cellS 1 rfl hb (t := 0) x1 rfl, ?_⟩
  refine edge_step Y (by omega) (fun c2 => by rw [hf] at c2; cases c2) fun eb eo _ a1 a2 => ⟨_, rfl, eb, eo, rfl, _, a1, _, a2, ?_⟩
  intro hv9
  have Y : Sy _ _ hv9 [_, _, _] := Y.junk _
  intro hv10
  have Y : Sy _ _ hv10 [_, _, _] := ((Y.stJ 2 rfl _ _).stJ 2 rfl _ _)
  clear_value hv10
  refine ⟨rb, 0, hb, Int.le_refl 0, l0, k, Y.cellS 1 rfl hb (t := 0) x0 rfl, ?_⟩
  refine edge_step Y (by omega) (fun c2 => by rw [hk] at c2; cases c2) fun eb eo _ a1 a2 => ⟨_, rfl, eb, eo, rfl, _, a2, ?_⟩
  refine ⟨fun lz h' => lz = [.int .i64 (G2.ends1 k v)] ∧ h' = hv10, cnd_eq (fun c5 => ⟨?_, rfl⟩) (fun c5 => ⟨?_, rfl⟩), ?_⟩
  · have : ((G2.edgeAt k).2.1 == v) = true := by simp [c5]
    rw [Gr.ends1, this]; rfl
  · have : ((G2.edgeAt k).2.1 == v) = false := by simp [c5]
    rw [Gr.ends1, this]; rfl
  · rintro en hv12 ⟨q1, rfl⟩
    have q2 : en = G2.ends1 k v := by simpa using q1
    subst q2
    have en0 : 0 ≤ G2.ends1 k v ∧ G2.ends1 k v ≤ 1 := by unfold Gr.ends1; split <;> omega
    refine ⟨rb, 0, hb, Int.le_refl 0, l0, k, Y.cellS 1 rfl hb (t := 0) x0 rfl, ?_⟩
    refine GC.step (g166 G2 k _ _ (by omega) kr.1.1 kr.1.2 (by omega) en0.1 en0.2) Y alln fun _ h2 bs2 G3 Y ⟨e1, e2⟩ => ⟨e1, ?_⟩
    have m1 : G3.edges.length = G2.edges.length := by rw [e2, Gr.move, Gr.did_edges]; simp [Gr.setEnd]
    have m2 : G3.undo.length ≤ G2.undo.length + 1 := by rw [e2]; exact Gr.did_undo _ _
    have m3 : G3.nodes.length = G2.nodes.length := by rw [e2, Gr.move, Gr.did_nodes]; rfl
    have Y : Sy _ _ h2 [_, _, _] := Y
    refine ⟨rb, 0, hb, by omega, l1, f, Y.cellS 1 rfl hb (t := 0) x1 rfl, ?_⟩
    refine GC.step (g170 G3 f (by omega) fr.1.1 (by omega) (by omega)) Y alln fun _ h3 bs3 G4 Y ⟨e1, e3⟩ => ⟨e1, ?_⟩
    have m4 : G4.undo.length ≤ G3.undo.length + 1 := by rw [e3]; exact Gr.did_undo _ _
    have m5 : G4.nodes.length = G3.nodes.length := by rw [e3, Gr.dropE, Gr.did_nodes]; rfl
    have vr := c
    simp only [Gr.node, Bool.and_eq_true, decide_eq_true_eq] at vr
    refine GC.step (g171 G4 v (by omega) vr.1.1 (by omega) (by omega)) Y alln fun _ h4 bs4 G5 Y ⟨e1, e4⟩ => ⟨e1, ?_⟩
    have Y : Sy _ _ h4 [_, _, _] := Y
    refine ⟨rb, 0, hb, Int.le_refl 0, l0, k, Y.cellS 1 rfl hb (t := 0) x0 rfl, ?_⟩
    refine ⟨bs4, G5, k, 0, Y.pick [0] rfl, rfl, ?_⟩
    subst e4; subst e3; subst e2
    exact k1 k f c hkf c3 c4
theorem ok101 {R : Gr → Int → Prop} (hr : G.room 1) (hm : G.marks.length ≤ 64) (k0 : 64 ≤ G.marks.length → R G 0) (k1 : G.marks.length < 64 → R G.markG (w64 (G.last + 1))) : Ok101 G R := by
  intro h b bs hp
  obtain ⟨r1, r2, r3⟩ := hr
  have Y : Sy h _ h [_] := Sy.startM hp rfl
  apply calls101
  unfold S101
  refine GC.step (g162 G) Y alln fun _ h1 bs1 G1 Y ⟨e1, e2⟩ => ⟨false, e1, cnd_f rfl ?_⟩
  subst e2
  have Y0 := Y
  obtain ⟨nA, nL, nC, eA, eL, eC, uA, uL, uC, rs, mA, mL, mC, Y⟩ := Y.openG
  have Y : Sy _ _ h1 [_, _, _, _, _] := Y
  obtain rfl := Y.lenS 4 rfl
  obtain rfl := Y.lenU 3 rfl
  refine ⟨b, 0, rfl, _, _, _, Y.cellO 0 rfl 6 rfl, cnd_dec (fun c => ⟨bs1, G1, 0, Y0, rfl, k0 (by omega)⟩) fun c => ?_⟩
  refine ⟨b, 0, rfl, _, Y.cellO 0 rfl 7 rfl, b, 0, rfl, ⟨_, Y.cellO 0 rfl 7 rfl⟩, Y.freeO 0 rfl _, ?_⟩
  intro hv2
  have Y : Sy _ _ hv2 [_, _, _, _, _] := Y.stO 0 rfl 7 _
  clear_value hv2
  have nb : b ∉ blkOf mA := fun q => (Y.hp.ap 0 4 _ _ (by omega) rfl rfl b (by simp [Ck.ob])).1 q
  refine ⟨blkOf mA, alln, b, 0, rfl, nb, _, _, _, Y.cellO 0 rfl 6 rfl, b, 0, rfl, nb, _, Y.cellO 0 rfl 7 rfl, b, 0, rfl, nb, _, _, _, Y.cellO 0 rfl 5 rfl, ?_⟩
  have F : Fr (blkOf mA) hv2 hv2 := Fr.refl _ _
  intro hv3
  have F : Fr (blkOf mA) hv2 hv3 := F.pushr _
  have Y : Sy _ _ hv3 [_, _, _, _, _, _] := Y.junk _
  clear_value hv3
  refine ⟨F, _, Y.ownS 4 rfl, allc (Y.nJ 4 5 rfl rfl rfl) alln, by omega, by simp [maxLen]; omega, ?_⟩
  intro sA sC hv5 ow fA gA gB
  have Y : Sy _ _ hv5 [_, _, _, _, _, _] := Y.appS 4 rfl ([(w64 (G1.last + 1), (G1.undo.length : Int))] : List (Int × Int)) ow fA gA rfl rfl
  refine ⟨F.trans fA, b, 0, rfl, Y.neJ 0 5 rfl rfl rfl (by simp [Ck.ob]), ⟨_, Y.cellO 0 rfl 6 rfl⟩, Y.freeO 0 rfl _, ?_⟩
  intro hv6
  have Y : Sy _ _ hv6 [_, _, _, _, _, _] := Y.stO 0 rfl 6 _
  refine ⟨b, 0, rfl, _, Y.cellO 0 rfl 7 rfl, _, _, _, Sy.packG G1.markG (B := []) (Y.pick [0, 1, 2, 3, 4] rfl), rfl, k1 (by omega)⟩
theorem ok100 {R : Gr → Prop} (hr : G.room 1) (k : R G) : Ok100 G v R := by
  intro h b bs hp
  obtain ⟨r1, r2, r3⟩ := hr
  have Y : Sy h _ h [_] := Sy.startM hp rfl
  apply calls100
  unfold S100
  intro hv
  have Y : Sy _ _ hv [_, _] := Y.newO _
  clear_value hv
  refine GC.step (g162 G) Y alln fun _ h1 bs1 G1 Y ⟨e1, e2⟩ => ⟨false, e1, cnd_t rfl ?_⟩
  subst e2
  refine GC.step (g167 G1 v (by omega)) Y alln fun _ h1 bs1 G2 Y ⟨e1, e2⟩ => ⟨_, e1, ?_⟩
  subst e2
  refine ⟨fun _ h' => Sy h (owns [Ck.gr b bs G2]) h' [Ck.gr b bs1 G2], cnd_b (fun c => ?_) (fun c => Y.pick [0] rfl), fun hv6 Y => ⟨bs1, G2, _, _, _, Y, rfl, k⟩⟩
  refine at_step Y (by omega) fun h2 rA rL rC Y => ⟨_, _, _, rfl, ?_⟩
  have Y : Sy _ _ h2 [_, _, _] := Y
  refine ⟨⟨_, Y.cellO 1 rfl 0 rfl⟩, Y.freeO 1 rfl _, ?_⟩
  intro hv5
  have Y : Sy _ _ hv5 [_, _, _] := Y.stO 1 rfl 0 _
  exact Y.pick [0] rfl
end
end Go.Proofs.Ytmcloipjlihhlaa.N

/- Package graph: the net that a graph tells. Conditions: none. -/
namespace Go.X
/-- The ids of what lives. -/
def idsN : Nat → List Bool → List Int
  | _, [] => []
  | i, x :: r => (if x then [(i : Int) + 1] else []) ++ idsN (i + 1) r
def idsE : Nat → List (Int × Int × Bool) → List Int
  | _, [] => []
  | i, x :: r => (if x.2.2 then [(i : Int) + 1] else []) ++ idsE (i + 1) r
/-- A node's place in the net. -/
def toV (ns : List Bool) : Nat → Int
  | 0 => 0
  | j + 1 => if ns.getD j false then ((idsN 0 (ns.take j)).length : Int) else 0
def netE (ns : List Bool) : List (Int × Int × Bool) → List (Int × Int)
  | [] => []
  | x :: r => (if x.2.2 then [(toV ns x.1.toNat, toV ns x.2.1.toNat)] else []) ++ netE ns r
theorem idsN_snoc : ∀ (l : List Bool) (i : Nat) (x : Bool), idsN i (l ++ [x]) = idsN i l ++ (if x then [((i + l.length : Nat) : Int) + 1] else [])
  | [], i, x => by simp [idsN]
  | y :: l, i, x => by
    simp only [List.cons_append, idsN, idsN_snoc l (i + 1) x, List.append_assoc, List.length_cons]
    rw [show i + 1 + l.length = i + (l.length + 1) by omega]
theorem idsE_snoc : ∀ (l : List (Int × Int × Bool)) (i : Nat) (x : Int × Int × Bool), idsE i (l ++ [x]) = idsE i l ++ (if x.2.2 then [((i + l.length : Nat) : Int) + 1] else [])
  | [], i, x => by simp [idsE]
  | y :: l, i, x => by
    simp only [List.cons_append, idsE, idsE_snoc l (i + 1) x, List.append_assoc, List.length_cons]
    rw [show i + 1 + l.length = i + (l.length + 1) by omega]
theorem netE_snoc (ns : List Bool) : ∀ (l : List (Int × Int × Bool)) (x : Int × Int × Bool), netE ns (l ++ [x]) = netE ns l ++ (if x.2.2 then [(toV ns x.1.toNat, toV ns x.2.1.toNat)] else [])
  | [], x => by simp [netE]
  | y :: l, x => by simp only [List.cons_append, netE, netE_snoc ns l x, List.append_assoc]
theorem idsN_len : ∀ (l : List Bool) (i : Nat), (idsN i l).length ≤ l.length
  | [], i => by simp [idsN]
  | y :: l, i => by
    have := idsN_len l (i + 1)
    simp only [idsN, List.length_append, List.length_cons]
    split <;> simp <;> omega
theorem idsE_len : ∀ (l : List (Int × Int × Bool)) (i : Nat), (idsE i l).length ≤ l.length
  | [], i => by simp [idsE]
  | y :: l, i => by
    have := idsE_len l (i + 1)
    simp only [idsE, List.length_append, List.length_cons]
    split <;> simp <;> omega
theorem netE_len (ns : List Bool) : ∀ (l : List (Int × Int × Bool)), (netE ns l).length ≤ l.length
  | [] => by simp [netE]
  | y :: l => by
    have := netE_len ns l
    simp only [netE, List.length_append, List.length_cons]
    split <;> simp <;> omega
/-- Living edges end at ids. -/
def Gr.inR (G : Gr) : Prop := ∀ x ∈ G.edges, x.2.2 = true → 0 ≤ x.1 ∧ x.1 ≤ G.nodes.length ∧ 0 ≤ x.2.1 ∧ x.2.1 ≤ G.nodes.length
end Go.X
namespace Go.Proofs.Ytmcloipjlihhlaa.N
open Go.Proofs.Ytmcloipjlihhlaa
open Go.X

theorem t79 (G : Gr) (hr : G.room 1) (hi : G.inR) : T79v true G.nodes G.edges G.ln G.le G.marks G.last (fun n es a b => n = (idsN 0 G.nodes).length ∧ es = netE G.nodes G.edges ∧ a = idsN 0 G.nodes ∧ b = idsE 0 G.edges) := by
  obtain ⟨r1, r2, r3⟩ := hr
  unfold T79v
  apply ok162v
  unfold T162v
  refine cnd_f rfl (cnd_f rfl ?_)
  have hw : IntKind.i64.wrap ((G.nodes.length : Int) + 1) = (G.nodes.length : Int) + 1 := wr (by omega) (by omega)
  have ht : ((G.nodes.length : Int) + 1).toNat = G.nodes.length + 1 := by omega
  rw [hw, ht]
  refine ⟨by omega, by omega, fun ns x c0 c1 to => 0 ≤ x ∧ x ≤ G.nodes.length ∧ ns = idsN 0 (G.nodes.take x.toNat) ∧ c0 = (idsN 0 (G.nodes.take x.toNat)).length ∧ c1 = [] ∧ ∀ j : Nat, j ≤ G.nodes.length → to[j]? = some (if j ≤ x.toNat then toV G.nodes j else 0),
    fun _ x _ _ _ => G.nodes.length - x.toNat, ⟨by omega, by omega, by simp [idsN], by simp [idsN], rfl, fun j hj => ?_⟩, ?_⟩
  · rw [List.getElem?_replicate, if_pos (by omega)]
    congr 1
    cases j with
    | zero => rfl
    | succ j => simp
  rintro ns x c0 c1 to ⟨h1, h2, rfl, rfl, rfl, hto⟩
  have lt := idsN_len (G.nodes.take x.toNat) 0
  have el : (G.nodes.take x.toNat).length = x.toNat := by rw [List.length_take]; omega
  rw [el] at lt
  refine cnd_dec (fun h3 => ⟨h1, h3, fun y hy => ?_⟩) fun h3 => ?_
  · have hx : IntKind.i64.wrap (x + 1) = x + 1 := wr (by omega) (by omega)
    have hc : IntKind.i64.wrap (((idsN 0 (G.nodes.take x.toNat)).length : Int) + 1) = ((idsN 0 (G.nodes.take x.toNat)).length : Int) + 1 := wr (by omega) (by omega)
    rw [hx, hc]
    have et : (x + 1).toNat = x.toNat + 1 := by omega
    have en := idsN_snoc (G.nodes.take x.toNat) 0 y
    rw [← take_snoc hy, ← et, el] at en
    have ex : (((0 + x.toNat : Nat) : Int) + 1) = x + 1 := by omega
    rw [ex] at en
    have ms : G.nodes.length - (x + 1).toNat < G.nodes.length - x.toNat := by omega
    refine ⟨fun ns c0 c1 to => ns = idsN 0 (G.nodes.take (x + 1).toNat) ∧ c0 = (idsN 0 (G.nodes.take (x + 1).toNat)).length ∧ c1 = [] ∧ ∀ j : Nat, j ≤ G.nodes.length → to[j]? = some (if j ≤ (x + 1).toNat then toV G.nodes j else 0), cnd_b (fun c => ?_) fun c => ?_, ?_⟩
    · subst c
      refine ⟨by omega, by omega, by omega, ?_, ?_, rfl, fun j hj => ?_⟩
      · rw [en]; rfl
      · rw [en]; simp
      · have e0 := hto j hj
        have jl : j < to.length := (List.getElem?_eq_some_iff.1 e0).1
        rw [et, List.getElem?_set]
        by_cases hj2 : x.toNat + 1 = j
        · subst hj2
          rw [if_pos rfl, if_pos jl, if_pos (Nat.le_refl _)]
          simp only [toV, List.getD_eq_getElem?_getD, hy, Option.getD_some, if_true]
        · rw [if_neg hj2, e0]
          by_cases hj3 : j ≤ x.toNat
          · rw [if_pos hj3, if_pos (by omega)]
          · rw [if_neg hj3, if_neg (by omega)]
    · subst c
      have en' : idsN 0 (List.take (x + 1).toNat G.nodes) = idsN 0 (List.take x.toNat G.nodes) := by rw [en]; simp
      rw [en']
      refine ⟨rfl, rfl, rfl, fun j hj => ?_⟩
      rw [hto j hj, et]
      by_cases hj2 : x.toNat + 1 = j
      · subst hj2
        rw [if_neg (by omega), if_pos (Nat.le_refl _)]
        simp only [toV, List.getD_eq_getElem?_getD, hy, Option.getD_some]
        rfl
      · by_cases hj3 : j ≤ x.toNat
        · rw [if_pos hj3, if_pos (by omega)]
        · rw [if_neg hj3, if_neg (by omega)]
    · rintro _ _ _ to2 ⟨rfl, rfl, rfl, h5⟩
      exact ⟨⟨by omega, by omega, rfl, rfl, rfl, h5⟩, ms⟩
  · have e1 : x.toNat = G.nodes.length := by omega
    have hto2 : ∀ j : Nat, j ≤ G.nodes.length → to[j]? = some (toV G.nodes j) := fun j hj => by rw [hto j hj, e1, if_pos hj]
    rw [e1, List.take_length]
    clear hto
    refine ⟨fun es x c0 c1 => 0 ≤ x ∧ x ≤ G.edges.length ∧ es = idsE 0 (G.edges.take x.toNat) ∧ c0 = (idsN 0 G.nodes).length ∧ c1 = netE G.nodes (G.edges.take x.toNat), fun _ x _ _ => G.edges.length - x.toNat, ⟨by omega, by omega, by simp [idsE], rfl, by simp [netE]⟩, ?_⟩
    rintro es x c0 c1 ⟨h1, h2, rfl, rfl, rfl⟩
    have lt := idsE_len (G.edges.take x.toNat) 0
    have lt2 := netE_len G.nodes (G.edges.take x.toNat)
    have el : (G.edges.take x.toNat).length = x.toNat := by rw [List.length_take]; omega
    rw [el] at lt lt2
    refine cnd_dec (fun h3 => ⟨h1, h3, fun y hy => ?_⟩) fun h3 => ?_
    · have hx : IntKind.i64.wrap (x + 1) = x + 1 := wr (by omega) (by omega)
      rw [hx]
      have et : (x + 1).toNat = x.toNat + 1 := by omega
      have en := idsE_snoc (G.edges.take x.toNat) 0 y
      rw [← take_snoc hy, ← et, el] at en
      have en2 := netE_snoc G.nodes (G.edges.take x.toNat) y
      rw [← take_snoc hy, ← et] at en2
      have ex : (((0 + x.toNat : Nat) : Int) + 1) = x + 1 := by omega
      rw [ex] at en
      have ms : G.edges.length - (x + 1).toNat < G.edges.length - x.toNat := by omega
      refine ⟨fun es c0 c1 => es = idsE 0 (G.edges.take (x + 1).toNat) ∧ c0 = (idsN 0 G.nodes).length ∧ c1 = netE G.nodes (G.edges.take (x + 1).toNat), cnd_b (fun c => ?_) fun c => ?_, ?_⟩
      · obtain ⟨a1, a2, a3, a4⟩ := hi y (List.mem_of_getElem? hy) c
        refine ⟨a1, by omega, fun p hp => ⟨a3, by omega, fun q hq => ?_⟩⟩
        rw [hto2 _ (by omega)] at hp hq
        obtain rfl := Option.some.inj hp
        obtain rfl := Option.some.inj hq
        refine ⟨by omega, by omega, ?_, rfl, ?_⟩
        · rw [en]; simp [c]
        · rw [en2]; simp [c]
      · refine ⟨?_, rfl, ?_⟩
        · rw [en]; simp [c]
        · rw [en2]; simp [c]
      · rintro _ _ _ ⟨rfl, rfl, rfl⟩
        exact ⟨⟨by omega, by omega, rfl, rfl, rfl⟩, ms⟩
    · have e1 : x.toNat = G.edges.length := by omega
      rw [e1, List.take_length]
      exact ⟨rfl, rfl, rfl, rfl⟩
theorem ok79 {G : Gr} {R : Gr → Int → List (Int × Int) → List Int → List Int → Prop} (hr : G.room 1) (hi : G.inR) (k : R G (idsN 0 G.nodes).length (netE G.nodes G.edges) (idsN 0 G.nodes) (idsE 0 G.edges)) : Ok79 G R := by
  intro h b bs hp
  have Y : Sy h _ h [_] := Sy.startM hp rfl
  obtain ⟨nA, nL, nC, eA, eL, eC, uA, uL, uC, mA, mL, mC, H⟩ := grv Y
  refine (ok79v (t79 G hr hi) h b 0 nA nL nC eA eL eC uA uL uC mA mL mC H).mono fun v h' r => ?_
  obtain ⟨nV, a1, a2, a3, es, b1, b2, b3, ns, c1, c2, c3, ids, P, e, rfl, rfl, rfl, rfl⟩ := r
  have Y : Sy _ _ h' [_, _, _, _] := Y.callV P ⟨rfl, rfl, rfl, trivial⟩
  exact ⟨_, _, _, _, _, _, _, _, _, _, _, _, _, _, _, Y, e, k⟩
end Go.Proofs.Ytmcloipjlihhlaa.N

/- Package graph: a node dropped, a mark gone back to. Conditions: none. -/
namespace Go.X
theorem Gr.dropE_nodes (G : Gr) (e : Int) : (G.dropE e).nodes = G.nodes := by rw [Gr.dropE, Gr.did_nodes]; rfl
theorem Gr.dropE_elen (G : Gr) (e : Int) : (G.dropE e).edges.length = G.edges.length := by rw [Gr.dropE, Gr.did_edges]; simp [Gr.setE]
theorem Gr.dropE_ulen (G : Gr) (e : Int) : (G.dropE e).undo.length ≤ G.undo.length + 1 := Gr.did_undo _ _
theorem Gr.dropEs (l : List Int) : ∀ (G : Gr), (l.foldl Gr.dropE G).nodes = G.nodes ∧ (l.foldl Gr.dropE G).edges.length = G.edges.length ∧ (l.foldl Gr.dropE G).undo.length ≤ G.undo.length + l.length := by
  induction l with
  | nil => intro G; simp
  | cons e l ih =>
    intro G
    obtain ⟨a, b, c⟩ := ih (G.dropE e)
    have := Gr.dropE_ulen G e
    exact ⟨by rw [List.foldl_cons, a, Gr.dropE_nodes], by rw [List.foldl_cons, b, Gr.dropE_elen], by rw [List.foldl_cons, List.length_cons]; omega⟩
/-- The last thing done undone. -/
def Gr.pop (G : Gr) : Gr :=
  match G.undo.getLast? with
  | some u => Gr.undo1 { G with undo := G.undo.take (G.undo.length - 1) } u
  | none => G
def Gr.unwind : Nat → Gr → Gr
  | 0, G => G
  | k + 1, G => Gr.unwind k G.pop
def Gr.canN : Nat → Gr → Prop
  | 0, _ => True
  | k + 1, G => (∃ u, G.undo.getLast? = some u ∧ Gr.can { G with undo := G.undo.take (G.undo.length - 1) } u) ∧ Gr.canN k G.pop
theorem Gr.undo1_undo (G : Gr) (u : Und) : (G.undo1 u).undo = G.undo := by cases u <;> rfl
theorem Gr.undo1_len (G : Gr) (u : Und) : (G.undo1 u).nodes.length ≤ G.nodes.length ∧ (G.undo1 u).edges.length ≤ G.edges.length := by
  cases u <;> simp [Gr.undo1, Gr.setEnd, Gr.setE, Gr.setN] <;> omega
end Go.X
namespace Go.Proofs.Ytmcloipjlihhlaa.N
open Go.Proofs.Ytmcloipjlihhlaa
open Go.X

theorem ok99 {G : Gr} {v : Int} {R : Gr → Int → Int → Prop} (hr : G.room ((G.at v).length + 1)) (k0 : G.node v = false → R G 0 2) (k1 : G.node v = true → R (G.dropAll v) ((G.at v).length : Int) 0) : Ok99 G v R := by
  intro h b bs hp
  obtain ⟨r1, r2, r3⟩ := hr
  have Y : Sy h _ h [_] := Sy.startM hp rfl
  apply calls99
  unfold S99
  refine GC.step (g162 G) Y alln fun _ h1 bs1 G1 Y ⟨e1, e2⟩ => ⟨false, e1, cnd_f rfl ?_⟩
  subst e2
  refine GC.step (g167 G1 v (by omega)) Y alln fun _ h1 bs1 G2 Y ⟨e1, e2⟩ => ⟨_, e1, ?_⟩
  subst e2
  refine cnd_not (fun c => ⟨bs1, G2, 0, 2, Y, rfl, k0 c⟩) fun c => ?_
  refine at_step Y (by omega) fun h2 rA rL rC Y => ⟨_, _, _, rfl, ?_⟩
  have Y : Sy _ _ h2 [_, _] := Y
  obtain rfl := Y.lenS 1 rfl
  refine ⟨fun lz h' => ∃ (x : Int) (bs' : List Nat), lz = [.int .i64 x] ∧ 0 ≤ x ∧ x ≤ (G2.at v).length ∧ Sy h (owns [Ck.gr b bs G2]) h' [Ck.gr b bs' (((G2.at v).take x.toNat).foldl Gr.dropE G2), Ck.sl eI 3 rA (G2.at v).length rC (G2.at v)],
    mI ((G2.at v).length : Int), ⟨0, bs1, rfl, Int.le_refl 0, by omega, Y⟩, ?_⟩
  rintro x hv4 ⟨x', bs', e, h1, h2', Y⟩
  cases e
  obtain ⟨f1, f2, f3⟩ := Gr.dropEs ((G2.at v).take x.toNat) G2
  have fl : ((G2.at v).take x.toNat).length = x.toNat := by rw [List.length_take]; omega
  rw [fl] at f3
  refine cnd_dec (fun c3 => ?_) fun c3 => ?_
  · obtain ⟨rb, hb, _, e, he⟩ := Y.atS 1 rfl h1 c3
    have er := Gr.at_range v G2.edges 0 e (List.mem_of_getElem? he)
    have hw : IntKind.i64.wrap (x + 1) = x + 1 := wr (by omega) (by omega)
    refine ⟨rb, 0, hb, h1, c3, e, Y.cellS 1 rfl hb (t := 0) he rfl, ?_⟩
    refine GC.step (g170 _ e (by omega) (by omega) (by omega) (by omega)) Y alln fun _ h5 bs5 G5 Y ⟨e1, e2⟩ => ⟨e1, ⟨IntKind.i64.wrap (x + 1), bs5, rfl, by omega, by omega, ?_⟩, ?_⟩
    · rw [hw, show (x + 1).toNat = x.toNat + 1 by omega, take_snoc he, List.foldl_append]
      subst e2
      exact Y
    · rw [hw]; simp only [mI]; omega
  · have ex : x.toNat = (G2.at v).length := by omega
    rw [ex, List.take_length] at Y f1 f2 f3
    simp only [Gr.node, Bool.and_eq_true, decide_eq_true_eq] at c
    refine GC.step (g171 _ v (by omega) c.1.1 (by rw [f1]; exact c.1.2) (by rw [f1]; omega)) Y alln fun _ h5 bs5 G5 Y ⟨e1, e2⟩ => ⟨e1, ?_⟩
    subst e2
    exact ⟨bs5, _, _, 0, Y.pick [0] rfl, rfl, k1 (by simp only [Gr.node, Bool.and_eq_true, decide_eq_true_eq]; exact c)⟩
theorem fns_mem {g : Nat} (h : g = 212 ∨ g = 213 ∨ g = 214 ∨ g = 215 ∨ g = 216) : X.mem fnsX g = true := by
  rcases h with rfl | rfl | rfl | rfl | rfl <;> kernel_rfl
theorem ok104 {G : Gr} {number : Int} {R : Gr → Int → Prop} (hr : G.room 1) (hm : G.marks.length ≤ 64)
    (k0 : (∀ m ∈ G.marks, m.1 ≠ number) → R G 14)
    (hc : ∀ i d, G.marks[i]? = some (number, d) → (∀ j m, j < i → G.marks[j]? = some m → m.1 ≠ number) → 0 ≤ d ∧ Gr.canN (G.undo.length - d.toNat) { G with marks := G.marks.take (i + 1) } ∧ R (Gr.unwind (G.undo.length - d.toNat) { G with marks := G.marks.take (i + 1) }) 0) : Ok104 G number R := by
  intro h b bs hp
  have hr0 := hr
  obtain ⟨r1, r2, r3⟩ := hr
  have Y : Sy h _ h [_] := Sy.startM hp rfl
  apply calls104
  unfold S104
  refine GC.step (g162 G) Y alln fun _ h1 bs1 G1 Y ⟨e1, e2⟩ => ⟨false, e1, cnd_f rfl ?_⟩
  subst e2
  obtain ⟨nA, nL, nC, eA, eL, eC, uA, uL, uC, rs, mA, mL, mC, Y⟩ := Y.openG
  have Y : Sy _ _ h1 [_, _, _, _, _] := Y
  obtain rfl := Y.lenS 4 rfl
  obtain rfl := Y.lenU 3 rfl
  refine ⟨b, 0, rfl, _, _, _, Y.cellO 0 rfl 6 rfl, ?_⟩
  obtain ⟨L, hL, Y⟩ : ∃ L, L = [Ck.ob b 204 [.bool true, .slice nA nL nC, .slice eA eL eC, .int .i64 G1.ln, .int .i64 G1.le, .slice uA G1.undo.length uC, .slice mA G1.marks.length mC, .int .i64 G1.last], Ck.sl eB 4 nA nL nC G1.nodes, Ck.sl e2B 199 eA eL eC G1.edges, Ck.un uA G1.undo.length uC rs G1.undo, Ck.sl eP 226 mA G1.marks.length mC G1.marks] ∧ Sy h (owns [Ck.gr b bs G1]) h1 L := ⟨_, rfl, Y⟩
  refine ⟨fun lz h' => ∃ x : Int, lz = [.int .i64 x] ∧ 0 ≤ x ∧ x ≤ G1.marks.length ∧ (∀ (j : Nat) m, j < x.toNat → G1.marks[j]? = some m → m.1 ≠ number) ∧ Sy h (owns [Ck.gr b bs G1]) h' L, mI (G1.marks.length : Int), ⟨0, rfl, Int.le_refl 0, by omega, fun j m hj => by simp at hj, Y⟩, ?_⟩
  rintro x hv2 ⟨x', e, h1', h2', hno, Y⟩
  cases e
  refine cnd_dec (fun c => ?_) fun c => ?_
  · have hw : IntKind.i64.wrap (x + 1) = x + 1 := wr (by omega) (by omega)
    subst hL
    obtain ⟨mb, hb, _, m, hmm⟩ := Y.atS 4 rfl h1' c
    refine ⟨mb, 0, hb, h1', c, m.1, Y.cellS 4 rfl hb (t := 0) hmm rfl, m.2, Y.cellS 4 rfl hb (t := 1) hmm rfl, ?_⟩
    intro hv3
    have Y : Sy _ _ hv3 [_, _, _, _, _, _] := Y.junk _
    intro hv4
    have Y : Sy _ _ hv4 [_, _, _, _, _, _] := ((Y.stJ 5 rfl _ _).stJ 5 rfl _ _)
    clear_value hv4
    refine cnd_ne (fun c2 => ⟨⟨IntKind.i64.wrap (x + 1), rfl, by omega, by omega, fun j m' hj hm' => ?_, Y.pick [0, 1, 2, 3, 4] rfl⟩, ?_⟩) fun c2 => ?_
    · rw [hw] at hj
      by_cases hj2 : j < x.toNat
      · exact hno j m' hj2 hm'
      · have : j = x.toNat := by omega
        subst this
        rw [hm'] at hmm
        obtain rfl := Option.some.inj hmm
        exact c2
    · rw [hw]; simp only [mI]; omega
    · obtain ⟨d0, hcan, hR⟩ := hc x.toNat m.2 (by rw [hmm, ← c2]) hno
      have cp := Y.capS 4 rfl
      refine ⟨b, 0, rfl, _, _, _, Y.cellO 0 rfl 6 rfl, by omega, by rw [hw]; omega, b, 0, rfl, Y.neJ 0 5 rfl rfl rfl (by simp [Ck.ob]), ⟨_, Y.cellO 0 rfl 6 rfl⟩, Y.freeO 0 rfl _, ?_⟩
      intro hv5
      have Y1 := Y.stO 0 rfl 6 (.slice (if mC = 0 then mA else Option.map (fun addr => Addr.add addr (0 * 2)) mA) ((Int.toNat (IntKind.i64.wrap (x + (1 : Int)))) - 0) (mC - 0))
      have Y : Sy _ _ hv5 [_, _, _, _, _, _] := Y1
      have et : (IntKind.i64.wrap (x + 1)).toNat - 0 = x.toNat + 1 := by rw [hw]; omega
      rw [slice0, et] at Y
      have Y : Sy _ _ hv5 [_, _, _, _, _, _] := Y.shrS 4 rfl (x.toNat + 1) (by omega)
      clear_value hv5
      have Y := Sy.packG { G1 with marks := G1.marks.take (x.toNat + 1) } (B := [_]) Y
      obtain ⟨JJ, hJJ⟩ : ∃ JJ : Nat → List Value → Heap → Prop, JJ = (fun k _ h' => ∃ (bs' : List Nat) (G' : Gr), Sy h (owns [Ck.gr b bs G1]) h' [Ck.gr b bs' G', Ck.junk hv2.size] ∧ G'.room 1 ∧ Gr.canN k G' ∧ G'.undo.length - m.2.toNat = k ∧ Gr.unwind k G' = Gr.unwind (G1.undo.length - m.2.toNat) { G1 with marks := G1.marks.take (x.toNat + 1) }) := ⟨_, rfl⟩
      refine ⟨fun lz h' => ∃ k, JJ k lz h', Lm JJ, ?_, ?_⟩
      · subst hJJ
        exact ⟨_, _, _, Y, hr0, hcan, rfl, rfl⟩
      · clear Y
        intro hv6 hI
        obtain ⟨k, hI, hmeas⟩ := loopIn hI
        subst hJJ
        obtain ⟨bs', G', Y, hr', hcan', hk, hun⟩ := hI
        have Yg := Y
        obtain ⟨nA, nL, nC, eA, eL, eC, uA, uL, uC, rs, mA, mL, mC, Y⟩ := Y.openG
        have Y : Sy _ _ hv6 [_, _, _, _, _, _] := Y
        obtain rfl := Y.lenU 3 rfl
        have hr2 := hr'
        obtain ⟨s1, s2, s3⟩ := hr'
        refine ⟨b, 0, rfl, _, _, _, Y.cellO 0 rfl 5 rfl, cnd_dec (fun c3 => ?_) fun c3 => ?_⟩
        · have hw2 : IntKind.i64.wrap ((G'.undo.length : Int) - 1) = (G'.undo.length : Int) - 1 := wr (by omega) (by omega)
          have q1 : 0 ≤ IntKind.i64.wrap ((G'.undo.length : Int) - 1) := by rw [hw2]; omega
          have q2 : IntKind.i64.wrap ((G'.undo.length : Int) - 1) < (G'.undo.length : Int) := by rw [hw2]; omega
          obtain ⟨ub, hub, r, u, hrr, huu, hcell, hmean⟩ := Y.atU 3 rfl q1 q2
          have cp : G'.undo.length ≤ uC := (Y.ownU 3 rfl).cap.1
          refine ⟨b, 0, rfl, _, _, _, Y.cellO 0 rfl 5 rfl, b, 0, rfl, _, _, _, Y.cellO 0 rfl 5 rfl, ub, 0, hub, q1, q2, r.f, r.x, r.y, hcell, b, 0, rfl, _, _, _, Y.cellO 0 rfl 5 rfl, b, 0, rfl, _, _, _, Y.cellO 0 rfl 5 rfl, q1, by omega, b, 0, rfl, Y.neJ 0 5 rfl rfl rfl (by simp [Ck.ob]), ⟨_, Y.cellO 0 rfl 5 rfl⟩, Y.freeO 0 rfl _, ?_⟩
          intro hv7
          have hm7 : Means hv7 r u := hmean.blk fun d hd => hset_ne (by
            rintro rfl
            exact (Y.hp.ap 0 3 _ _ (by omega) rfl rfl d (by simp [Ck.ob])).1 (List.mem_append_right _ (List.mem_flatMap.2 ⟨r, List.mem_of_getElem? hrr, hd⟩)))
          have Y1 := Y.stO 0 rfl 5 (.slice (if uC = 0 then uA else Option.map (fun addr => Addr.add addr (0 * 1)) uA) ((Int.toNat (IntKind.i64.wrap ((G'.undo.length : Int) - (1 : Int)))) - 0) (uC - 0))
          have Y : Sy _ _ hv7 [_, _, _, _, _, _] := Y1
          have et : (IntKind.i64.wrap ((G'.undo.length : Int) - 1)).toNat - 0 = G'.undo.length - 1 := by rw [hw2]; omega
          rw [slice0, et] at Y
          have Y : Sy _ _ hv7 [_, _, _, _, _, _] := Y.shrU 3 rfl (G'.undo.length - 1) (by omega)
          have Y := Sy.packG { G' with undo := G'.undo.take (G'.undo.length - 1) } (B := [_]) Y
          clear_value hv7
          -- what was done last
          have eu : G'.undo.getLast? = some u := by
            rw [List.getLast?_eq_getElem?, ← huu]
            congr 1
            rw [hw2]; omega
          obtain ⟨k', rfl⟩ : ∃ k', k = k' + 1 := ⟨k - 1, by omega⟩
          obtain ⟨⟨u', eu', hcan1⟩, hcan2⟩ := hcan'
          rw [eu] at eu'
          obtain rfl := Option.some.inj eu'
          have epop : G'.pop = Gr.undo1 { G' with undo := G'.undo.take (G'.undo.length - 1) } u := by rw [Gr.pop, eu]
          obtain ⟨g, g1, g2, g3, gc⟩ := undo_calls { G' with undo := G'.undo.take (G'.undo.length - 1) } u hcan1 ⟨s1, s2, by simp only [List.length_take]; omega⟩ hv7 b _ r (Hp.one (Y.ok (k := 0) rfl)) hm7
          rw [g1, g2]
          unfold callD
          simp only [fns_mem g3]
          refine callX_sy gc (fun _ _ ⟨_, p, _⟩ => p.fr) (allc (Y.hp.ap 1 0 _ _ (by omega) rfl rfl _ (by simp [Ck.junk])).1 alln) ?_
          rintro _ hv8 ⟨bs8, P, rfl⟩
          have Y : Sy _ _ hv8 [_, _] := Sy.call (A := [Ck.gr b _ _]) (cs' := [Ck.gr b bs8 _]) Y (by rw [owns_gr]; exact P) ⟨rfl, trivial⟩
          refine ⟨rfl, ?_⟩
          have ln := Gr.undo1_len { G' with undo := G'.undo.take (G'.undo.length - 1) } u
          have lu : (Gr.undo1 { G' with undo := G'.undo.take (G'.undo.length - 1) } u).undo.length = G'.undo.length - 1 := by rw [Gr.undo1_undo]; simp
          have ln1 : (Gr.undo1 { G' with undo := G'.undo.take (G'.undo.length - 1) } u).nodes.length ≤ G'.nodes.length := ln.1
          have ln2 : (Gr.undo1 { G' with undo := G'.undo.take (G'.undo.length - 1) } u).edges.length ≤ G'.edges.length := ln.2
          refine loopBack (k' := k') hmeas ⟨bs8, _, Y, ⟨by omega, by omega, by omega⟩, by rw [← epop]; exact hcan2, by omega, ?_⟩ (by omega)
          rw [← epop, ← hun]; rfl
        · have k0' : k = 0 := by omega
          subst k0'
          exact ⟨bs', G', 0, Yg.pick [0] rfl, rfl, by have hun : G' = _ := hun; rw [hun]; exact hR⟩
  · subst hL
    refine ⟨_, G1, 14, Sy.packG G1 (B := []) Y, rfl, k0 fun m hmem => ?_⟩
    obtain ⟨j, hj, rfl⟩ := List.getElem_of_mem hmem
    exact hno j _ (by omega) (List.getElem?_eq_getElem hj)
end Go.Proofs.Ytmcloipjlihhlaa.N

/- Layer 4: begun. Conditions: none. -/
namespace Go.Proofs.Ytmcloipjlihhlaa.N
open Go.Proofs.Ytmcloipjlihhlaa
open Go.X
theorem okBegun74 {R : Bool → Prop} (k : R true) : Ok74 R := by
  apply ok74
  unfold T74
  refine ok161 (cnd_f rfl (ok100 ⟨by decide, by decide, by decide⟩ (cnd_f rfl ?_)))
  refine ok97 ⟨by decide, by decide, by decide⟩ (fun c => absurd c (by decide)) fun _ => ?_
  have e1 : Gr.addN ⟨[], [], 0, 0, [], [], 0⟩ = ⟨[true], [], 1, 0, [], [], 0⟩ := rfl
  rw [e1]
  refine ok97 ⟨by decide, by decide, by decide⟩ (fun c => absurd c (by decide)) fun _ => ?_
  have e2 : Gr.addN ⟨[true], [], 1, 0, [], [], 0⟩ = ⟨[true, true], [], 2, 0, [], [], 0⟩ := rfl
  rw [e2]
  refine ok98 ⟨by decide, by decide, by decide⟩ (fun c => absurd c (by decide)) (fun _ _ c => absurd c (by decide)) fun _ _ _ => ?_
  have e3 : Gr.addE ⟨[true, true], [], 2, 0, [], [], 0⟩ (((([] : List Bool).length : Nat) : Int) + 1) ((([true] : List Bool).length : Nat) + 1) = ⟨[true, true], [(1, 2, true)], 2, 1, [], [], 0⟩ := rfl
  rw [e3]
  refine ok77 ⟨by decide, by decide, by decide⟩ (fun c => absurd c (by decide)) (fun _ c => absurd c (by decide)) fun _ _ _ => ?_
  have e4 : Gr.splitG ⟨[true, true], [(1, 2, true)], 2, 1, [], [], 0⟩ (((([] : List (Int × Int × Bool)).length : Nat) : Int) + 1) = ⟨[true, true, true], [(1, 3, true), (3, 2, true)], 3, 2, [], [], 0⟩ := rfl
  rw [e4]
  refine ok101 ⟨by decide, by decide, by decide⟩ (by decide) (fun c => absurd c (by decide)) fun _ => ?_
  have e5 : Gr.markG ⟨[true, true, true], [(1, 3, true), (3, 2, true)], 3, 2, [], [], 0⟩ = ⟨[true, true, true], [(1, 3, true), (3, 2, true)], 3, 2, [], [(1, 0)], 1⟩ := rfl
  rw [e5]
  have e6 : Gr.at ⟨[true, true, true], [(1, 3, true), (3, 2, true)], 3, 2, [], [(1, 0)], 1⟩ 3 = [1, 2] := rfl
  refine ok78 (v := 3) ⟨by decide, by decide, by decide⟩ (fun c => absurd c (by decide)) (fun _ c => absurd (c 1 2 e6) (by decide)) (fun k f _ q _ _ => ?_) (by rw [e6]; decide)
  have q' : [1, 2] = [k, f] := e6.symm.trans q
  simp only [List.cons.injEq, and_true] at q'
  obtain ⟨rfl, rfl⟩ := q'
  have e7 : Gr.unsplitG ⟨[true, true, true], [(1, 3, true), (3, 2, true)], 3, 2, [], [(1, 0)], 1⟩ 3 1 2 = ⟨[true, true, false], [(1, 2, true), (3, 2, false)], 2, 1, [.ends 1 1 3, .edge 2, .node 3], [(1, 0)], 1⟩ := rfl
  rw [e7]
  refine ok79 ⟨by decide, by decide, by decide⟩ (fun x hx => ?_) ?_
  · simp only [List.mem_cons, List.not_mem_nil, or_false] at hx
    rcases hx with rfl | rfl
    · exact fun _ => by decide
    · exact fun c => by cases c
  refine cnd_t rfl (cnd_t rfl (cnd_t rfl (cnd_t rfl (cnd_t rfl (cnd_t rfl (cnd_t rfl (cnd_t rfl (cnd_t rfl (cnd_t rfl (cnd_t rfl ?_))))))))))
  refine ok104 ⟨by decide, by decide, by decide⟩ (by decide) (fun c => absurd rfl (c (1, 0) (by simp))) fun i d hi hno => ?_
  have i0 : i = 0 := by
    have := (List.getElem?_eq_some_iff.1 hi).1
    simpa using this
  subst i0
  have hd : d = 0 := by
    have : ((1, 0) : Int × Int) = (w64 ((0 : Int) + 1), d) := Option.some.inj hi
    exact (Prod.ext_iff.1 this).2.symm
  subst hd
  exact ⟨by decide, ⟨⟨.node 3, rfl, by decide, by decide⟩, ⟨.edge 2, rfl, by decide, by decide⟩, ⟨.ends 1 1 3, rfl, by decide, by decide, by decide, by decide⟩, trivial⟩, k⟩
end Go.Proofs.Ytmcloipjlihhlaa.N
