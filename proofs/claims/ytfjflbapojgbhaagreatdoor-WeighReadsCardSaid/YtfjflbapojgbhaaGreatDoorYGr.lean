/- Graphs that change, in memory: what undoes something as a value, slices of such values, the whole graph as one chunk. Conditions: none. -/
import Derived.Test.YtfjflbapojgbhaaGreatDoorYTwo
namespace Go.X

/-- What undoes something; 'any': nothing is told of it. -/
inductive Und where
  | popN
  | popE
  | ends (e en v : Int)
  | edge (e : Int)
  | node (v : Int)
  | any
/-- A function's value, and the blocks of what it holds. -/
structure FnR where
  f : Fn
  x : Array Value
  y : Array Value
  bs : List Nat
def FnR.val (r : FnR) : Value := .func r.f r.x r.y
def IsBox (h : Heap) (p : Nat) (v : Int) : Prop := h[p]? = some (.cells #[.int .i64 v] 3 (0, 0))
def Means (h : Heap) (r : FnR) : Und → Prop
  | .popN => r = ⟨.func 212, #[], #[], []⟩
  | .popE => r = ⟨.func 213, #[], #[], []⟩
  | .ends e en v => ∃ p q s, r = ⟨.func 214, #[], #[.pointer (some ⟨p, 0, none⟩), .pointer (some ⟨q, 0, none⟩), .pointer (some ⟨s, 0, none⟩)], [p, q, s]⟩ ∧ IsBox h p v ∧ IsBox h q e ∧ IsBox h s en
  | .edge e => ∃ p, r = ⟨.func 215, #[], #[.pointer (some ⟨p, 0, none⟩)], [p]⟩ ∧ IsBox h p e
  | .node v => ∃ p, r = ⟨.func 216, #[], #[.pointer (some ⟨p, 0, none⟩)], [p]⟩ ∧ IsBox h p v
  | .any => r.bs = []
theorem Means.lt {h : Heap} {r : FnR} {u : Und} (m : Means h r u) : ∀ b ∈ r.bs, b < h.size := by
  cases u with
  | popN => subst m; simp
  | popE => subst m; simp
  | ends e en v =>
    obtain ⟨p, q, s, rfl, h1, h2, h3⟩ := m
    intro b hb
    simp at hb
    rcases hb with rfl | rfl | rfl
    · exact blk_lt h1
    · exact blk_lt h2
    · exact blk_lt h3
  | edge e => obtain ⟨p, rfl, h1⟩ := m; intro b hb; simp at hb; subst hb; exact blk_lt h1
  | node e => obtain ⟨p, rfl, h1⟩ := m; intro b hb; simp at hb; subst hb; exact blk_lt h1
  | any => have e : r.bs = [] := m; simp [e]
theorem Means.blk {h h' : Heap} {r : FnR} {u : Und} (m : Means h r u) (e : ∀ b ∈ r.bs, h'[b]? = h[b]?) : Means h' r u := by
  cases u with
  | popN => exact m
  | popE => exact m
  | ends e' en v =>
    obtain ⟨p, q, s, rfl, h1, h2, h3⟩ := m
    exact ⟨p, q, s, rfl, (e p (by simp)).trans h1, (e q (by simp)).trans h2, (e s (by simp)).trans h3⟩
  | edge e' => obtain ⟨p, rfl, h1⟩ := m; exact ⟨p, rfl, (e p (by simp)).trans h1⟩
  | node e' => obtain ⟨p, rfl, h1⟩ := m; exact ⟨p, rfl, (e p (by simp)).trans h1⟩
  | any => exact m
/-- One such value, and what it holds. -/
def Ck.fv (r : FnR) (u : Und) : Ck := ⟨r.bs, [], fun h => Means h r u, fun _ m => ⟨m.lt, by simp⟩, fun _ _ e _ m => m.blk e⟩
structure UnOK (h : Heap) (a : Option Addr) (n c : Nat) (rs : List FnR) (us : List Und) : Prop where
  out : Ownd h 227 1 a n c (rs.map FnR.val)
  ln : rs.length = n
  lu : us.length = n
  row : ∀ (i : Nat) (r : FnR) (u : Und), rs[i]? = some r → us[i]? = some u → Means h r u
  na : ∀ r ∈ rs, ∀ b ∈ r.bs, b ∉ blkOf a
/-- A slice of them. -/
def Ck.un (a : Option Addr) (n c : Nat) (rs : List FnR) (us : List Und) : Ck :=
  ⟨blkOf a ++ rs.flatMap FnR.bs, [], fun h => UnOK h a n c rs us,
    fun h R => ⟨fun b hb => by
      rw [List.mem_append, List.mem_flatMap] at hb
      rcases hb with hb | ⟨r, hr, hb⟩
      · exact R.out.lt b hb
      · obtain ⟨i, hi, rfl⟩ := List.getElem_of_mem hr
        have hu : i < us.length := by rw [R.lu, ← R.ln]; exact hi
        exact (R.row i _ _ (List.getElem?_eq_getElem hi) (List.getElem?_eq_getElem hu)).lt b hb, by simp⟩,
    fun h h' he _ R => ⟨R.out.blk fun b hb => he b (List.mem_append_left _ hb), R.ln, R.lu, fun i r u h1 h2 => (R.row i r u h1 h2).blk fun b hb =>
      he b (List.mem_append_right _ (List.mem_flatMap.2 ⟨r, List.mem_of_getElem? h1, hb⟩)), R.na⟩⟩
section
variable {h0 h h' : Heap} {M : List Nat} {cs : List Ck} {a : Option Addr} {n c : Nat} {rs : List FnR} {us : List Und} {b : Nat}

theorem UnOK.u (R : UnOK h a n c rs us) {i : Nat} {r : FnR} (hr : rs[i]? = some r) : ∃ u, us[i]? = some u := by
  have := (List.getElem?_eq_some_iff.1 hr).1
  exact ⟨_, List.getElem?_eq_getElem (by rw [R.lu, ← R.ln]; exact this)⟩
end

theorem nv_fr {cs : List Ck} (nv : Nv cs) {h h' : Heap} (H : Hp h cs) (he : ∀ b ∈ owns cs, h'[b]? = h[b]?) : Hp h' cs :=
  ⟨fun k c hk => c.fr h h' (fun b hb => he b (List.mem_flatMap.2 ⟨c, List.mem_of_getElem? hk, hb⟩)) (fun b hb => by rw [nv.get hk] at hb; cases hb) (H.ok k c hk), H.ap⟩
theorem owns_lt {cs : List Ck} {h : Heap} (H : Hp h cs) : ∀ b ∈ owns cs, b < h.size := by
  intro b hb
  obtain ⟨c, hc, hb⟩ := List.mem_flatMap.1 hb
  obtain ⟨k, hk, rfl⟩ := List.getElem_of_mem hc
  exact (cs[k].lt h (H.ok k _ (List.getElem?_eq_getElem hk))).1 b hb
section
variable {h0 h h' : Heap} {M : List Nat} {A B : List Ck}
end

structure Gr where
  nodes : List Bool
  edges : List (Int × Int × Bool)
  ln : Int
  le : Int
  undo : List Und
  marks : List (Int × Int)
  last : Int
def grL (b : Nat) (G : Gr) (nA : Option Addr) (nL nC : Nat) (eA : Option Addr) (eL eC : Nat) (uA : Option Addr) (uL uC : Nat) (rs : List FnR) (mA : Option Addr) (mL mC : Nat) : List Ck := [Ck.ob b 204 [.bool true, .slice nA nL nC, .slice eA eL eC, .int .i64 G.ln, .int .i64 G.le, .slice uA uL uC, .slice mA mL mC, .int .i64 G.last], Ck.sl eB 4 nA nL nC G.nodes, Ck.sl e2B 199 eA eL eC G.edges, Ck.un uA uL uC rs G.undo, Ck.sl eP 226 mA mL mC G.marks]
theorem grL_nv (b : Nat) (G : Gr) (nA : Option Addr) (nL nC : Nat) (eA : Option Addr) (eL eC : Nat) (uA : Option Addr) (uL uC : Nat) (rs : List FnR) (mA : Option Addr) (mL mC : Nat) : Nv (grL b G nA nL nC eA eL eC uA uL uC rs mA mL mC) := ⟨rfl, rfl, rfl, rfl, rfl, trivial⟩
def Ck.gr (b : Nat) (bs : List Nat) (G : Gr) : Ck :=
  ⟨bs, [], fun h => ∃ nA nL nC eA eL eC uA uL uC rs mA mL mC, bs = owns (grL b G nA nL nC eA eL eC uA uL uC rs mA mL mC) ∧ Hp h (grL b G nA nL nC eA eL eC uA uL uC rs mA mL mC), fun h ⟨_, _, _, _, _, _, _, _, _, _, _, _, _, e, hp⟩ => ⟨by rw [e]; exact owns_lt hp, by simp⟩,
    fun h h' he _ ⟨_, _, _, _, _, _, _, _, _, _, _, _, _, e, hp⟩ => ⟨_, _, _, _, _, _, _, _, _, _, _, _, _, e, nv_fr (grL_nv b G _ _ _ _ _ _ _ _ _ _ _ _ _) hp (by rw [← e]; exact he)⟩⟩
section
variable {h0 h h' : Heap} {M : List Nat} {B : List Ck} {b : Nat} {bs : List Nat} {G : Gr}
end
end Go.X
