/- The document's graph in memory: marks with what was then, the whole graph as one chunk. Conditions: none. -/
import Derived.Test.YtfjflbapojgbhaaGreatDoorYGr
namespace Go.X
/-- The document's graph: what is now. -/
structure RS where
  ns : List Int
  es : List (Int × Int × Int)
  nn : Int
  ne : Int
/-- The document's graph. -/
structure RG where
  s : RS
  marks : List (Int × RS)
  last : Int
theorem inOwnN {N : List Nat} {g : Nat} : ∀ x ∈ owns [], x ∈ N ∨ g ≤ x := fun x h => by simp [owns] at h
theorem inOwnC {N : List Nat} {g : Nat} {c : Ck} {cs : List Ck} (h : ∀ x ∈ c.own, x ∈ N ∨ g ≤ x) (t : ∀ x ∈ owns cs, x ∈ N ∨ g ≤ x) : ∀ x ∈ owns (c :: cs), x ∈ N ∨ g ≤ x := by
  intro x hx
  simp only [owns, List.flatMap_cons, List.mem_append] at hx
  exact hx.elim (h x) (t x)
/-- Where a mark's lists stand. -/
structure StH where
  na : Option Addr
  nl : Nat
  nc : Nat
  ea : Option Addr
  el : Nat
  ec : Nat
def StH.bs (t : StH) : List Nat := blkOf t.na ++ blkOf t.ea
def eM : En (StH × Int × RS) := ⟨5, fun p => [.int .i64 p.2.1, .slice p.1.na p.1.nl p.1.nc, .slice p.1.ea p.1.el p.1.ec, .int .i64 p.2.2.nn, .int .i64 p.2.2.ne], by decide, fun _ => rfl, fun x v h => by simp at h; rcases h with rfl | rfl | rfl | rfl | rfl <;> rfl⟩
structure StOK (h : Heap) (t : StH) (s : RS) : Prop where
  n : Ownd h 3 1 t.na t.nl t.nc (eI.l s.ns)
  nl : s.ns.length = t.nl
  e : Ownd h 239 3 t.ea t.el t.ec (e3.l s.es)
  el : s.es.length = t.el
theorem StOK.blk {h h' : Heap} {t : StH} {s : RS} (R : StOK h t s) (he : ∀ b ∈ t.bs, h'[b]? = h[b]?) : StOK h' t s :=
  ⟨R.n.blk fun b hb => he b (List.mem_append_left _ hb), R.nl, R.e.blk fun b hb => he b (List.mem_append_right _ hb), R.el⟩
theorem StOK.lt {h : Heap} {t : StH} {s : RS} (R : StOK h t s) : ∀ b ∈ t.bs, b < h.size := by
  intro b hb
  simp only [StH.bs, List.mem_append] at hb
  exact hb.elim (R.n.lt b) (R.e.lt b)
/-- What the marks keep. -/
def Ck.sts (ps : List (StH × Int × RS)) : Ck :=
  ⟨ps.flatMap fun p => p.1.bs, [], fun h => ∀ p ∈ ps, StOK h p.1 p.2.2,
    fun h R => ⟨fun b hb => by
      obtain ⟨p, hp, hb⟩ := List.mem_flatMap.1 hb
      exact (R p hp).lt b hb, by simp⟩,
    fun h h' he _ R p hp => (R p hp).blk fun b hb => he b (List.mem_flatMap.2 ⟨p, hp, hb⟩)⟩
def rgL (b : Nat) (D : RG) (nA : Option Addr) (nL nC : Nat) (eA : Option Addr) (eL eC : Nat) (mA : Option Addr) (mL mC : Nat) (ps : List (StH × Int × RS)) : List Ck := [Ck.ob b 155 [.slice nA nL nC, .slice eA eL eC, .int .i64 D.s.nn, .int .i64 D.s.ne, .slice mA mL mC, .int .i64 D.last], Ck.sl eI 3 nA nL nC D.s.ns, Ck.sl e3 239 eA eL eC D.s.es, Ck.sl eM 243 mA mL mC ps, Ck.sts ps]
theorem rgL_nv (b : Nat) (D : RG) (nA : Option Addr) (nL nC : Nat) (eA : Option Addr) (eL eC : Nat) (mA : Option Addr) (mL mC : Nat) (ps : List (StH × Int × RS)) : Nv (rgL b D nA nL nC eA eL eC mA mL mC ps) := ⟨rfl, rfl, rfl, rfl, rfl, trivial⟩
def Ck.rg (b : Nat) (bs : List Nat) (D : RG) : Ck :=
  ⟨bs, [], fun h => ∃ nA nL nC eA eL eC mA mL mC ps, bs = owns (rgL b D nA nL nC eA eL eC mA mL mC ps) ∧ ps.map (·.2) = D.marks ∧ Hp h (rgL b D nA nL nC eA eL eC mA mL mC ps),
    fun h ⟨_, _, _, _, _, _, _, _, _, _, e, _, hp⟩ => ⟨by rw [e]; exact owns_lt hp, by simp⟩,
    fun h h' he _ ⟨_, _, _, _, _, _, _, _, _, _, e, q, hp⟩ => ⟨_, _, _, _, _, _, _, _, _, _, e, q, nv_fr (rgL_nv b D _ _ _ _ _ _ _ _ _ _) hp (by rw [← e]; exact he)⟩⟩
section
variable {h0 h h' : Heap} {M : List Nat} {B : List Ck} {b : Nat} {bs : List Nat} {D : RG}
end
end Go.X
