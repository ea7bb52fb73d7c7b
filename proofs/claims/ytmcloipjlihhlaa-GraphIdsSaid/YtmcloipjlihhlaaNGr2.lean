/- Package graph: moves, what undoes them, what is looked at, and the exported calls. Conditions: none. -/
import Derived.Test.YtmcloipjlihhlaaNGr
import Derived.Test.YtmcloipjlihhlaaTGraph
namespace Go.X
def Gr.node (G : Gr) (v : Int) : Bool := decide (1 ≤ v) && decide (v ≤ G.nodes.length) && G.nodes.getD (v - 1).toNat false
def Gr.hasE (G : Gr) (e : Int) : Bool := decide (1 ≤ e) && decide (e ≤ G.edges.length) && (G.edgeAt e).2.2
/-- The living edges at a node, by id. -/
def atL (v : Int) : Nat → List (Int × Int × Bool) → List Int
  | _, [] => []
  | i, x :: r => (if x.2.2 && (x.1 == v || x.2.1 == v) then [(i : Int) + 1] else []) ++ atL v (i + 1) r
def Gr.at (G : Gr) (v : Int) : List Int := atL v 0 G.edges
theorem atL_snoc (v : Int) : ∀ (l : List (Int × Int × Bool)) (i : Nat) (x : Int × Int × Bool), atL v i (l ++ [x]) = atL v i l ++ (if x.2.2 && (x.1 == v || x.2.1 == v) then [((i + l.length : Nat) : Int) + 1] else [])
  | [], i, x => by simp [atL]
  | y :: l, i, x => by
    simp only [List.cons_append, atL, atL_snoc v l (i + 1) x, List.append_assoc, List.length_cons]
    rw [show i + 1 + l.length = i + (l.length + 1) by omega]
theorem atL_len (v : Int) : ∀ (l : List (Int × Int × Bool)) (i : Nat), (atL v i l).length ≤ l.length
  | [], i => by simp [atL]
  | y :: l, i => by
    have := atL_len v l (i + 1)
    simp only [atL, List.length_append, List.length_cons]
    split <;> simp <;> omega
theorem take_snoc {α : Type} {l : List α} {i : Nat} {x : α} (h : l[i]? = some x) : l.take (i + 1) = l.take i ++ [x] := by
  rw [List.take_add_one, h]; rfl
/-- Gone back. -/
def Gr.undo1 (G : Gr) : Und → Gr
  | .popN => { G with nodes := G.nodes.take (G.nodes.length - 1), ln := w64 (G.ln - 1) }
  | .popE => { G with edges := G.edges.take (G.edges.length - 1), le := w64 (G.le - 1) }
  | .ends e en v => G.setEnd e en v
  | .edge e => G.setE e true 1
  | .node v => G.setN v true 1
  | .any => G
/-- That can be done. -/
def Gr.can (G : Gr) : Und → Prop
  | .popN => 0 < G.nodes.length
  | .popE => 0 < G.edges.length
  | .ends e en _ => 1 ≤ e ∧ e ≤ G.edges.length ∧ 0 ≤ en ∧ en ≤ 1
  | .edge e => 1 ≤ e ∧ e ≤ G.edges.length
  | .node v => 1 ≤ v ∧ v ≤ G.nodes.length
  | .any => False
end Go.X
namespace Go.Proofs.Ytmcloipjlihhlaa.N
open Go.Proofs.Ytmcloipjlihhlaa
open Go.X

section
variable {h0 h : Heap} {M H : List Nat} {B : List Ck} {b : Nat} {bs : List Nat} {G : Gr} {K : Value → Heap → Prop}
/-- The graph is looked at. -/
theorem grv (Y : Sy h0 M h (Ck.gr b bs G :: B)) : ∃ nA nL nC eA eL eC uA uL uC mA mL mC, Hp h [Ck.vob b 0 [.bool true, .slice nA nL nC, .slice eA eL eC, .int .i64 G.ln, .int .i64 G.le, .slice uA uL uC, .slice mA mL mC, .int .i64 G.last],
    Ck.vw eB nA nL nC G.nodes, Ck.vw e2B eA eL eC G.edges, Ck.vw eP mA mL mC G.marks] := by
  obtain ⟨nA, nL, nC, eA, eL, eC, uA, uL, uC, rs, mA, mL, mC, Y⟩ := (Sy.startM (Hp.one (Y.ok (k := 0) rfl)) rfl : Sy h (owns [Ck.gr b bs G]) h [Ck.gr b bs G]).openG
  have Y : Sy _ _ h [_, _, _, _, _] := (((Y.turn 0 rfl To.obvob).turn 1 rfl To.slvw).turn 2 rfl To.slvw).turn 4 rfl To.slvw
  exact ⟨_, _, _, _, _, _, _, _, _, _, _, _, (Y.pick [0, 1, 2, 4] rfl).hp⟩
theorem cellG (Y : Sy h0 M h (Ck.gr b bs G :: B)) : hcell h b 3 = some (.int .i64 G.ln) ∧ hcell h b 4 = some (.int .i64 G.le) := by
  obtain ⟨nA, nL, nC, eA, eL, eC, uA, uL, uC, rs, mA, mL, mC, Y⟩ := Y.openG
  exact ⟨Y.cellO 0 rfl 3 rfl, Y.cellO 0 rfl 4 rfl⟩
end

theorem g167 (G : Gr) (v : Int) (hn : G.nodes.length < 1000000000000) : GC 167 [.int .i64 v] G fun r G' => r = .bool (G.node v) ∧ G' = G := by
  intro h b bs hp
  have Y : Sy h bs h [_] := Sy.startM hp owns_gr
  obtain ⟨nA, nL, nC, eA, eL, eC, uA, uL, uC, mA, mL, mC, H⟩ := grv Y
  have T : T167v true G.nodes G.edges G.ln G.le G.marks G.last v (fun r => r = G.node v) := by
    unfold T167v
    refine cnd_dec (fun h1 => cnd_dec (fun h2 => ?_) fun h2 => ?_) fun h1 => ?_
    · have hw : IntKind.i64.wrap (v - 1) = v - 1 := wr (by omega) (by omega)
      rw [hw]
      refine ⟨by omega, by omega, fun x hx => ?_⟩
      have h3 : G.nodes.getD (v - 1).toNat false = x := by rw [List.getD_eq_getElem?_getD, hx]; rfl
      have h1' : 1 ≤ v := by omega
      have h2' : v ≤ G.nodes.length := by omega
      rw [Gr.node, h3, decide_eq_true h1', decide_eq_true h2']; rfl
    · have h2' : ¬ v ≤ G.nodes.length := by omega
      simp [Gr.node, h2']
    · have h1' : ¬ 1 ≤ v := by omega
      simp [Gr.node, h1']
  exact (ok167v T h b 0 nA nL nC eA eL eC uA uL uC mA mL mC H).mono fun r h' ⟨x, P, e, q⟩ => ⟨bs, G, Y.gr P.fr, by rw [e, q], rfl⟩
theorem g168 (G : Gr) (v : Int) (hn : G.edges.length < 1000000000000) : ∀ (h : Heap) (b : Nat) (bs : List Nat), Hp h [Ck.gr b bs G] →
    CallsH Try.prog 168 #[.pointer (some ⟨b, 0, none⟩), .int .i64 v] h fun r h' => ∃ a n c, Sy h [] h' [Ck.sl eI 3 a n c (G.at v)] ∧ r = .slice a n c := by
  intro h b bs hp
  have Y : Sy h bs h [_] := Sy.startM hp owns_gr
  obtain ⟨nA, nL, nC, eA, eL, eC, uA, uL, uC, mA, mL, mC, H⟩ := grv Y
  have T : T168v true G.nodes G.edges G.ln G.le G.marks G.last v (fun r => r = G.at v) := by
    unfold T168v
    refine ⟨fun l x => 0 ≤ x ∧ x ≤ G.edges.length ∧ l = atL v 0 (G.edges.take x.toNat), fun _ x => G.edges.length - x.toNat, ⟨by omega, by omega, by simp [atL]⟩, ?_⟩
    rintro l x ⟨h1, h2, rfl⟩
    refine cnd_dec (fun h3 => ?_) fun h3 => ?_
    · have hw : IntKind.i64.wrap (x + 1) = x + 1 := wr (by omega) (by omega)
      rw [hw]
      refine ⟨h1, h3, fun y hy => ?_⟩
      have et : (x + 1).toNat = x.toNat + 1 := by omega
      have es := take_snoc hy
      have en := atL_snoc v (G.edges.take x.toNat) 0 y
      rw [← es, ← et] at en
      have el : (G.edges.take x.toNat).length = x.toNat := by rw [List.length_take]; omega
      have ll := atL_len v (G.edges.take x.toNat) 0
      rw [el] at en ll
      have ex : (((0 + x.toNat : Nat) : Int) + 1) = x + 1 := by omega
      rw [ex] at en
      have ms : G.edges.length - (x + 1).toNat < G.edges.length - x.toNat := by omega
      refine cnd_b (fun c1 => ?_) fun c1 => ?_
      · refine cnd_eq (fun c2 => ⟨by omega, ⟨by omega, by omega, ?_⟩, ms⟩) fun c2 => ⟨fun l2 => l2 = atL v 0 (G.edges.take (x + 1).toNat), cnd_eq (fun c3 => ⟨by omega, ?_⟩) fun c3 => ?_, ?_⟩
        · rw [en]; simp [c1, c2]
        · rw [en]; simp [c1, c3]
        · rw [en]; simp [c1, c2, c3]
        · rintro _ rfl
          exact ⟨⟨by omega, by omega, rfl⟩, ms⟩
      · refine ⟨⟨by omega, by omega, ?_⟩, ms⟩
        rw [en]; simp [c1]
    · have : x.toNat = G.edges.length := by omega
      rw [this, List.take_length]; rfl
  exact (ok168v T h b 0 nA nL nC eA eL eC uA uL uC mA mL mC H).mono fun r h' ⟨a, n, c, l, P, e, q⟩ => by subst q; exact ⟨a, n, c, P, e⟩
theorem edge_step {h0 h : Heap} {M H : List Nat} {B : List Ck} {b : Nat} {bs : List Nat} {G : Gr} {K : Value → Heap → Prop} {e : Int} (Y : Sy h0 M h (Ck.gr b bs G :: B)) (hn : G.edges.length < 1000000000000)
    (k0 : G.hasE e = false → K (.pointer none) h)
    (k1 : ∀ eb eo, G.hasE e = true → hcell h eb eo = some (.int .i64 (G.edgeAt e).1) → hcell h eb (eo + 1) = some (.int .i64 (G.edgeAt e).2.1) → K (.pointer (some ⟨eb, eo, none⟩)) h) :
    callX Try.prog 163 #[.pointer (some ⟨b, 0, none⟩), .int .i64 e] h H K := by
  obtain ⟨nA, nL, nC, eA, eL, eC, uA, uL, uC, rs, mA, mL, mC, Y⟩ := Y.openG
  obtain rfl := Y.lenS 2 rfl
  refine callX_sy (MA := []) (R := fun v h' => h' = h ∧ ((G.hasE e = false ∧ v = .pointer none) ∨ ∃ eb eo, G.hasE e = true ∧ hcell h eb eo = some (.int .i64 (G.edgeAt e).1) ∧ hcell h eb (eo + 1) = some (.int .i64 (G.edgeAt e).2.1) ∧ v = .pointer (some ⟨eb, eo, none⟩)))
    (calls163 _ _ ?_) (fun v h' r => r.1 ▸ Fr.refl _ _) (fun _ _ q => by cases q) ?_
  · unfold S163
    refine cnd_dec (fun c => ⟨rfl, .inl ⟨?_, rfl⟩⟩) fun c => ?_
    · have : ¬ 1 ≤ e := by omega
      simp [Gr.hasE, this]
    · refine ⟨b, 0, rfl, _, _, _, Y.cellO 0 rfl 2 rfl, cnd_dec (fun c2 => ⟨rfl, .inl ⟨?_, rfl⟩⟩) fun c2 => ?_⟩
      · have : ¬ e ≤ G.edges.length := by omega
        simp [Gr.hasE, this]
      · have hw : IntKind.i64.wrap (e - 1) = e - 1 := wr (by omega) (by omega)
        have q1 : 0 ≤ IntKind.i64.wrap (e - 1) := by rw [hw]; omega
        have q2 : IntKind.i64.wrap (e - 1) < (G.edges.length : Int) := by rw [hw]; omega
        obtain ⟨nb, ha, _, x, hx⟩ := Y.atS 2 rfl q1 q2
        have ed : G.edgeAt e = x := by
          rw [hw] at hx
          rw [Gr.edgeAt, List.getD_eq_getElem?_getD, hx]; rfl
        have he : G.hasE e = x.2.2 := by
          have a1 : 1 ≤ e := by omega
          have a2 : e ≤ G.edges.length := by omega
          simp [Gr.hasE, a1, a2, ed]
        refine ⟨b, 0, rfl, _, _, _, Y.cellO 0 rfl 2 rfl, nb, 0, ha, q1, q2, x.2.2, Y.cellS 2 rfl ha (t := 2) hx rfl, cnd_not (fun c3 => ⟨rfl, .inl ⟨by rw [he, c3], rfl⟩⟩) fun c3 => ?_⟩
        refine ⟨b, 0, rfl, _, _, _, Y.cellO 0 rfl 2 rfl, nb, 0, ha, q1, q2, rfl, .inr ⟨nb, _, by rw [he, c3], ?_, ?_, rfl⟩⟩
        · rw [ed]; exact Y.cellS 2 rfl ha (t := 0) hx rfl
        · rw [ed]; exact Y.cellS 2 rfl ha (t := 1) hx rfl
  · rintro v h' ⟨rfl, ⟨e1, rfl⟩ | ⟨eb, eo, e1, e2, e3, rfl⟩⟩
    · exact k0 e1
    · exact k1 eb eo e1 e2 e3
theorem g166 (G : Gr) (e en v : Int) (hu : G.undo.length + 1 < 1000000000000) (h1 : 1 ≤ e) (h2 : e ≤ G.edges.length) (h3 : G.edges.length < 1000000000000) (e0 : 0 ≤ en) (e1 : en ≤ 1) :
    GC 166 [.int .i64 e, .int .i64 en, .int .i64 v] G fun r G' => r = .tuple #[] ∧ G' = G.move e en v := by
  intro h b bs hp
  have Y0 : Sy h bs h [_] := Sy.startM hp owns_gr
  obtain ⟨nA, nL, nC, eA, eL, eC, uA, uL, uC, rs, mA, mL, mC, Y⟩ := Y0.openG
  have Y : Sy h bs h [_, _, _, _, _] := Y
  obtain rfl := Y.lenS 2 rfl
  have hw : IntKind.i64.wrap (e - 1) = e - 1 := wr (by omega) (by omega)
  apply calls166
  unfold S166
  intro hv
  have Y : Sy _ _ hv [_, _, _, _, _, _] := Y.newO _
  intro hv2
  have Y : Sy _ _ hv2 [_, _, _, _, _, _, _] := Y.newO _
  have q1 : 0 ≤ IntKind.i64.wrap (e - 1) := by rw [hw]; omega
  have q2 : IntKind.i64.wrap (e - 1) < (G.edges.length : Int) := by rw [hw]; omega
  obtain ⟨nb, ha, _, x, hx⟩ := Y.atS 2 rfl q1 q2
  have e3 : en < ((2 : Nat) : Int) := by omega
  have ed : G.edgeAt e = x := by
    have hx := hx
    rw [hw] at hx
    rw [Gr.edgeAt, List.getD_eq_getElem?_getD, hx]; rfl
  have c01 : en = 0 ∨ en = 1 := by omega
  have hc : (e2B.enc x)[en.toNat]? = some (.int .i64 (endOf x en)) := by
    rcases c01 with rfl | rfl <;> rfl
  have hs : e2B.enc (putEnd x en v) = (e2B.enc x).set en.toNat (.int .i64 v) := by
    rcases c01 with rfl | rfl <;> rfl
  have ht : en.toNat < e2B.sz := by show en.toNat < 3; omega
  have hc2 := Y.cellS 2 rfl ha hx hc
  refine ⟨b, 0, rfl, _, _, _, Y.cellO 0 rfl 2 rfl, e, Y.cellO 5 rfl 0 rfl, en, Y.cellO 6 rfl 0 rfl, nb, 0, ha, q1, q2, e0, e3, endOf x en, by rw [Nat.mul_one]; exact hc2, ?_⟩
  have F0 : Fr [] hv2 hv2 := Fr.refl _ _
  intro hv3
  have F : Fr [] hv2 hv3 := F0.pushr _
  have Y : Sy _ _ hv3 [_, _, _, _, _, _, _, _] := Y.newO _
  refine ⟨F, ⟨_, Y.cellO 7 rfl 0 rfl⟩, Y.freeO 7 rfl _, ?_⟩
  intro hv4
  have Y : Sy _ _ hv4 [_, _, _, _, _, _, _, _] := Y.stO 7 rfl 0 _
  have hc3 := Y.cellS 2 rfl ha hx hc
  refine ⟨b, 0, rfl, _, _, _, Y.cellO 0 rfl 2 rfl, e, Y.cellO 5 rfl 0 rfl, en, Y.cellO 6 rfl 0 rfl, nb, 0, ha, q1, q2, e0, e3, ⟨_, by rw [Nat.mul_one]; exact hc3⟩, Y.freeS 2 rfl ha _, ?_⟩
  intro hv5
  have Y1 := Y.stS 2 rfl ha (t := en.toNat) (putEnd x en v) hx ht hs
  have e5 : hv5 = hset hv4 nb (0 + (IntKind.i64.wrap (e - 1)).toNat * e2B.sz + en.toNat) (.int .i64 v) := by
    show hset hv4 nb (0 + (IntKind.i64.wrap (e - 1)).toNat * 3 + en.toNat * 1) (.int .i64 v) = _
    rw [Nat.mul_one]; rfl
  rw [← e5] at Y1
  clear_value hv5
  have Y : Sy _ _ hv5 [_, _, _, _, _, _, _, _] := Y1
  have Y : Sy _ _ hv5 [_, _, _, _, _, _, _, _] := Y.pick [7, 5, 6, 0, 1, 2, 3, 4] rfl
  have Y : Sy _ _ hv5 (Ck.fv ⟨.func 214, #[], #[.pointer (some ⟨hv2.size, 0, none⟩), .pointer (some ⟨h.size, 0, none⟩), .pointer (some ⟨hv.size, 0, none⟩)], [hv2.size, h.size, hv.size]⟩ (.ends e en (endOf x en)) :: [_, _, _, _, _]) :=
    Sy.pack (A := [_, _, _]) Y rfl rfl ⟨_, _, _, rfl, Y.ok (k := 0) rfl, Y.ok (k := 1) rfl, Y.ok (k := 2) rfl⟩
  have Y : Sy _ _ hv5 [_, _, _, _, _, _] := Y.pick [1, 2, 3, 4, 5, 0] rfl
  have Y := Sy.packG { G with edges := G.edges.set (IntKind.i64.wrap (e - 1)).toNat (putEnd x en v) } (B := [_]) Y
  refine did_step (r := ⟨.func 214, #[], #[.pointer (some ⟨hv2.size, 0, none⟩), .pointer (some ⟨h.size, 0, none⟩), .pointer (some ⟨hv.size, 0, none⟩)], [hv2.size, h.size, hv.size]⟩) Y hu alln ?_
  intro hv6 bs' Y
  refine ⟨rfl, bs', _, Y, rfl, ?_⟩
  rw [set_modify (f := fun x => putEnd x en v) hx]
  simp only [Gr.move, Gr.setEnd, hw, ed]
end Go.Proofs.Ytmcloipjlihhlaa.N
