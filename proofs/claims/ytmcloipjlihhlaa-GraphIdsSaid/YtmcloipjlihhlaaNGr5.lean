/- Package graph: the net that a graph tells. Conditions: none. -/
import Derived.Test.YtmcloipjlihhlaaNGr4
namespace Go.X
/-- The ids of what lives. -/
def idsN : Nat → List Bool → List Int
  | _, [] => []
  | i, x :: r => (if x then [(i : Int) + 1] else []) ++ idsN (i + 1) r
def idsE : Nat → List (Int × Int × Bool) → List Int
  | _, [] => []
  | i, x :: r => (if x.2.2 then [(i : Int) + 1] else []) ++ idsE (i + 1) r
/-- A node's place in the net. -/
def toV (ns : List Bool) : Nat → Int
  | 0 => 0
  | j + 1 => if ns.getD j false then ((idsN 0 (ns.take j)).length : Int) else 0
def netE (ns : List Bool) : List (Int × Int × Bool) → List (Int × Int)
  | [] => []
  | x :: r => (if x.2.2 then [(toV ns x.1.toNat, toV ns x.2.1.toNat)] else []) ++ netE ns r
theorem idsN_snoc : ∀ (l : List Bool) (i : Nat) (x : Bool), idsN i (l ++ [x]) = idsN i l ++ (if x then [((i + l.length : Nat) : Int) + 1] else [])
  | [], i, x => by simp [idsN]
  | y :: l, i, x => by
    simp only [List.cons_append, idsN, idsN_snoc l (i + 1) x, List.append_assoc, List.length_cons]
    rw [show i + 1 + l.length = i + (l.length + 1) by omega]
theorem idsE_snoc : ∀ (l : List (Int × Int × Bool)) (i : Nat) (x : Int × Int × Bool), idsE i (l ++ [x]) = idsE i l ++ (if x.2.2 then [((i + l.length : Nat) : Int) + 1] else [])
  | [], i, x => by simp [idsE]
  | y :: l, i, x => by
    simp only [List.cons_append, idsE, idsE_snoc l (i + 1) x, List.append_assoc, List.length_cons]
    rw [show i + 1 + l.length = i + (l.length + 1) by omega]
theorem netE_snoc (ns : List Bool) : ∀ (l : List (Int × Int × Bool)) (x : Int × Int × Bool), netE ns (l ++ [x]) = netE ns l ++ (if x.2.2 then [(toV ns x.1.toNat, toV ns x.2.1.toNat)] else [])
  | [], x => by simp [netE]
  | y :: l, x => by simp only [List.cons_append, netE, netE_snoc ns l x, List.append_assoc]
theorem idsN_len : ∀ (l : List Bool) (i : Nat), (idsN i l).length ≤ l.length
  | [], i => by simp [idsN]
  | y :: l, i => by
    have := idsN_len l (i + 1)
    simp only [idsN, List.length_append, List.length_cons]
    split <;> simp <;> omega
theorem idsE_len : ∀ (l : List (Int × Int × Bool)) (i : Nat), (idsE i l).length ≤ l.length
  | [], i => by simp [idsE]
  | y :: l, i => by
    have := idsE_len l (i + 1)
    simp only [idsE, List.length_append, List.length_cons]
    split <;> simp <;> omega
theorem netE_len (ns : List Bool) : ∀ (l : List (Int × Int × Bool)), (netE ns l).length ≤ l.length
  | [] => by simp [netE]
  | y :: l => by
    have := netE_len ns l
    simp only [netE, List.length_append, List.length_cons]
    split <;> simp <;> omega
/-- Living edges end at ids. -/
def Gr.inR (G : Gr) : Prop := ∀ x ∈ G.edges, x.2.2 = true → 0 ≤ x.1 ∧ x.1 ≤ G.nodes.length ∧ 0 ≤ x.2.1 ∧ x.2.1 ≤ G.nodes.length
end Go.X
namespace Go.Proofs.Ytmcloipjlihhlaa.N
open Go.Proofs.Ytmcloipjlihhlaa
open Go.X

theorem t79 (G : Gr) (hr : G.room 1) (hi : G.inR) : T79v true G.nodes G.edges G.ln G.le G.marks G.last (fun n es a b => n = (idsN 0 G.nodes).length ∧ es = netE G.nodes G.edges ∧ a = idsN 0 G.nodes ∧ b = idsE 0 G.edges) := by
  obtain ⟨r1, r2, r3⟩ := hr
  unfold T79v
  apply ok162v
  unfold T162v
  refine cnd_f rfl (cnd_f rfl ?_)
  have hw : IntKind.i64.wrap ((G.nodes.length : Int) + 1) = (G.nodes.length : Int) + 1 := wr (by omega) (by omega)
  have ht : ((G.nodes.length : Int) + 1).toNat = G.nodes.length + 1 := by omega
  rw [hw, ht]
  refine ⟨by omega, by omega, fun ns x c0 c1 to => 0 ≤ x ∧ x ≤ G.nodes.length ∧ ns = idsN 0 (G.nodes.take x.toNat) ∧ c0 = (idsN 0 (G.nodes.take x.toNat)).length ∧ c1 = [] ∧ ∀ j : Nat, j ≤ G.nodes.length → to[j]? = some (if j ≤ x.toNat then toV G.nodes j else 0),
    fun _ x _ _ _ => G.nodes.length - x.toNat, ⟨by omega, by omega, by simp [idsN], by simp [idsN], rfl, fun j hj => ?_⟩, ?_⟩
  · rw [List.getElem?_replicate, if_pos (by omega)]
    congr 1
    cases j with
    | zero => rfl
    | succ j => simp
  rintro ns x c0 c1 to ⟨h1, h2, rfl, rfl, rfl, hto⟩
  have lt := idsN_len (G.nodes.take x.toNat) 0
  have el : (G.nodes.take x.toNat).length = x.toNat := by rw [List.length_take]; omega
  rw [el] at lt
  refine cnd_dec (fun h3 => ⟨h1, h3, fun y hy => ?_⟩) fun h3 => ?_
  · have hx : IntKind.i64.wrap (x + 1) = x + 1 := wr (by omega) (by omega)
    have hc : IntKind.i64.wrap (((idsN 0 (G.nodes.take x.toNat)).length : Int) + 1) = ((idsN 0 (G.nodes.take x.toNat)).length : Int) + 1 := wr (by omega) (by omega)
    rw [hx, hc]
    have et : (x + 1).toNat = x.toNat + 1 := by omega
    have en := idsN_snoc (G.nodes.take x.toNat) 0 y
    rw [← take_snoc hy, ← et, el] at en
    have ex : (((0 + x.toNat : Nat) : Int) + 1) = x + 1 := by omega
    rw [ex] at en
    have ms : G.nodes.length - (x + 1).toNat < G.nodes.length - x.toNat := by omega
    refine ⟨fun ns c0 c1 to => ns = idsN 0 (G.nodes.take (x + 1).toNat) ∧ c0 = (idsN 0 (G.nodes.take (x + 1).toNat)).length ∧ c1 = [] ∧ ∀ j : Nat, j ≤ G.nodes.length → to[j]? = some (if j ≤ (x + 1).toNat then toV G.nodes j else 0), cnd_b (fun c => ?_) fun c => ?_, ?_⟩
    · subst c
      refine ⟨by omega, by omega, by omega, ?_, ?_, rfl, fun j hj => ?_⟩
      · rw [en]; rfl
      · rw [en]; simp
      · have e0 := hto j hj
        have jl : j < to.length := (List.getElem?_eq_some_iff.1 e0).1
        rw [et, List.getElem?_set]
        by_cases hj2 : x.toNat + 1 = j
        · subst hj2
          rw [if_pos rfl, if_pos jl, if_pos (Nat.le_refl _)]
          simp only [toV, List.getD_eq_getElem?_getD, hy, Option.getD_some, if_true]
        · rw [if_neg hj2, e0]
          by_cases hj3 : j ≤ x.toNat
          · rw [if_pos hj3, if_pos (by omega)]
          · rw [if_neg hj3, if_neg (by omega)]
    · subst c
      have en' : idsN 0 (List.take (x + 1).toNat G.nodes) = idsN 0 (List.take x.toNat G.nodes) := by rw [en]; simp
      rw [en']
      refine ⟨rfl, rfl, rfl, fun j hj => ?_⟩
      rw [hto j hj, et]
      by_cases hj2 : x.toNat + 1 = j
      · subst hj2
        rw [if_neg (by omega), if_pos (Nat.le_refl _)]
        simp only [toV, List.getD_eq_getElem?_getD, hy, Option.getD_some]
        rfl
      · by_cases hj3 : j ≤ x.toNat
        · rw [if_pos hj3, if_pos (by omega)]
        · rw [if_neg hj3, if_neg (by omega)]
    · rintro _ _ _ to2 ⟨rfl, rfl, rfl, h5⟩
      exact ⟨⟨by omega, by omega, rfl, rfl, rfl, h5⟩, ms⟩
  · have e1 : x.toNat = G.nodes.length := by omega
    have hto2 : ∀ j : Nat, j ≤ G.nodes.length → to[j]? = some (toV G.nodes j) := fun j hj => by rw [hto j hj, e1, if_pos hj]
    rw [e1, List.take_length]
    clear hto
    refine ⟨fun es x c0 c1 => 0 ≤ x ∧ x ≤ G.edges.length ∧ es = idsE 0 (G.edges.take x.toNat) ∧ c0 = (idsN 0 G.nodes).length ∧ c1 = netE G.nodes (G.edges.take x.toNat), fun _ x _ _ => G.edges.length - x.toNat, ⟨by omega, by omega, by simp [idsE], rfl, by simp [netE]⟩, ?_⟩
    rintro es x c0 c1 ⟨h1, h2, rfl, rfl, rfl⟩
    have lt := idsE_len (G.edges.take x.toNat) 0
    have lt2 := netE_len G.nodes (G.edges.take x.toNat)
    have el : (G.edges.take x.toNat).length = x.toNat := by rw [List.length_take]; omega
    rw [el] at lt lt2
    refine cnd_dec (fun h3 => ⟨h1, h3, fun y hy => ?_⟩) fun h3 => ?_
    · have hx : IntKind.i64.wrap (x + 1) = x + 1 := wr (by omega) (by omega)
      rw [hx]
      have et : (x + 1).toNat = x.toNat + 1 := by omega
      have en := idsE_snoc (G.edges.take x.toNat) 0 y
      rw [← take_snoc hy, ← et, el] at en
      have en2 := netE_snoc G.nodes (G.edges.take x.toNat) y
      rw [← take_snoc hy, ← et] at en2
      have ex : (((0 + x.toNat : Nat) : Int) + 1) = x + 1 := by omega
      rw [ex] at en
      have ms : G.edges.length - (x + 1).toNat < G.edges.length - x.toNat := by omega
      refine ⟨fun es c0 c1 => es = idsE 0 (G.edges.take (x + 1).toNat) ∧ c0 = (idsN 0 G.nodes).length ∧ c1 = netE G.nodes (G.edges.take (x + 1).toNat), cnd_b (fun c => ?_) fun c => ?_, ?_⟩
      · obtain ⟨a1, a2, a3, a4⟩ := hi y (List.mem_of_getElem? hy) c
        refine ⟨a1, by omega, fun p hp => ⟨a3, by omega, fun q hq => ?_⟩⟩
        rw [hto2 _ (by omega)] at hp hq
        obtain rfl := Option.some.inj hp
        obtain rfl := Option.some.inj hq
        refine ⟨by omega, by omega, ?_, rfl, ?_⟩
        · rw [en]; simp [c]
        · rw [en2]; simp [c]
      · refine ⟨?_, rfl, ?_⟩
        · rw [en]; simp [c]
        · rw [en2]; simp [c]
      · rintro _ _ _ ⟨rfl, rfl, rfl⟩
        exact ⟨⟨by omega, by omega, rfl, rfl, rfl⟩, ms⟩
    · have e1 : x.toNat = G.edges.length := by omega
      rw [e1, List.take_length]
      exact ⟨rfl, rfl, rfl, rfl⟩
theorem ok79 {G : Gr} {R : Gr → Int → List (Int × Int) → List Int → List Int → Prop} (hr : G.room 1) (hi : G.inR) (k : R G (idsN 0 G.nodes).length (netE G.nodes G.edges) (idsN 0 G.nodes) (idsE 0 G.edges)) : Ok79 G R := by
  intro h b bs hp
  have Y : Sy h _ h [_] := Sy.startM hp rfl
  obtain ⟨nA, nL, nC, eA, eL, eC, uA, uL, uC, mA, mL, mC, H⟩ := grv Y
  refine (ok79v (t79 G hr hi) h b 0 nA nL nC eA eL eC uA uL uC mA mL mC H).mono fun v h' r => ?_
  obtain ⟨nV, a1, a2, a3, es, b1, b2, b3, ns, c1, c2, c3, ids, P, e, rfl, rfl, rfl, rfl⟩ := r
  have Y : Sy _ _ h' [_, _, _, _] := Y.callV P ⟨rfl, rfl, rfl, trivial⟩
  exact ⟨_, _, _, _, _, _, _, _, _, _, _, _, _, _, _, Y, e, k⟩
end Go.Proofs.Ytmcloipjlihhlaa.N
