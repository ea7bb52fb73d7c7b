/- The document's graph in memory: marks with what was then, the whole graph as one chunk. Conditions: none. -/
import Derived.Test.YtmcloipjlihhlaaYGr
namespace Go.X
/-- The document's graph: what is now. -/
structure RS where
  ns : List Int
  es : List (Int × Int × Int)
  nn : Int
  ne : Int
/-- The document's graph. -/
structure RG where
  s : RS
  marks : List (Int × RS)
  last : Int
theorem inOwnN {N : List Nat} {g : Nat} : ∀ x ∈ owns [], x ∈ N ∨ g ≤ x := fun x h => by simp [owns] at h
theorem inOwnC {N : List Nat} {g : Nat} {c : Ck} {cs : List Ck} (h : ∀ x ∈ c.own, x ∈ N ∨ g ≤ x) (t : ∀ x ∈ owns cs, x ∈ N ∨ g ≤ x) : ∀ x ∈ owns (c :: cs), x ∈ N ∨ g ≤ x := by
  intro x hx
  simp only [owns, List.flatMap_cons, List.mem_append] at hx
  exact hx.elim (h x) (t x)
/-- Where a mark's lists stand. -/
structure StH where
  na : Option Addr
  nl : Nat
  nc : Nat
  ea : Option Addr
  el : Nat
  ec : Nat
def StH.bs (t : StH) : List Nat := blkOf t.na ++ blkOf t.ea
def eM : En (StH × Int × RS) := ⟨5, fun p => [.int .i64 p.2.1, .slice p.1.na p.1.nl p.1.nc, .slice p.1.ea p.1.el p.1.ec, .int .i64 p.2.2.nn, .int .i64 p.2.2.ne], by decide, fun _ => rfl, fun x v h => by simp at h; rcases h with rfl | rfl | rfl | rfl | rfl <;> rfl⟩
structure StOK (h : Heap) (t : StH) (s : RS) : Prop where
  n : Ownd h 3 1 t.na t.nl t.nc (eI.l s.ns)
  nl : s.ns.length = t.nl
  e : Ownd h 239 3 t.ea t.el t.ec (e3.l s.es)
  el : s.es.length = t.el
theorem StOK.blk {h h' : Heap} {t : StH} {s : RS} (R : StOK h t s) (he : ∀ b ∈ t.bs, h'[b]? = h[b]?) : StOK h' t s :=
  ⟨R.n.blk fun b hb => he b (List.mem_append_left _ hb), R.nl, R.e.blk fun b hb => he b (List.mem_append_right _ hb), R.el⟩
theorem StOK.lt {h : Heap} {t : StH} {s : RS} (R : StOK h t s) : ∀ b ∈ t.bs, b < h.size := by
  intro b hb
  simp only [StH.bs, List.mem_append] at hb
  exact hb.elim (R.n.lt b) (R.e.lt b)
/-- What the marks keep. -/
def Ck.sts (ps : List (StH × Int × RS)) : Ck :=
  ⟨ps.flatMap fun p => p.1.bs, [], fun h => ∀ p ∈ ps, StOK h p.1 p.2.2,
    fun h R => ⟨fun b hb => by
      obtain ⟨p, hp, hb⟩ := List.mem_flatMap.1 hb
      exact (R p hp).lt b hb, by simp⟩,
    fun h h' he _ R p hp => (R p hp).blk fun b hb => he b (List.mem_flatMap.2 ⟨p, hp, hb⟩)⟩
def rgL (b : Nat) (D : RG) (nA : Option Addr) (nL nC : Nat) (eA : Option Addr) (eL eC : Nat) (mA : Option Addr) (mL mC : Nat) (ps : List (StH × Int × RS)) : List Ck := [Ck.ob b 155 [.slice nA nL nC, .slice eA eL eC, .int .i64 D.s.nn, .int .i64 D.s.ne, .slice mA mL mC, .int .i64 D.last], Ck.sl eI 3 nA nL nC D.s.ns, Ck.sl e3 239 eA eL eC D.s.es, Ck.sl eM 243 mA mL mC ps, Ck.sts ps]
theorem rgL_nv (b : Nat) (D : RG) (nA : Option Addr) (nL nC : Nat) (eA : Option Addr) (eL eC : Nat) (mA : Option Addr) (mL mC : Nat) (ps : List (StH × Int × RS)) : Nv (rgL b D nA nL nC eA eL eC mA mL mC ps) := ⟨rfl, rfl, rfl, rfl, rfl, trivial⟩
def Ck.rg (b : Nat) (bs : List Nat) (D : RG) : Ck :=
  ⟨bs, [], fun h => ∃ nA nL nC eA eL eC mA mL mC ps, bs = owns (rgL b D nA nL nC eA eL eC mA mL mC ps) ∧ ps.map (·.2) = D.marks ∧ Hp h (rgL b D nA nL nC eA eL eC mA mL mC ps),
    fun h ⟨_, _, _, _, _, _, _, _, _, _, e, _, hp⟩ => ⟨by rw [e]; exact owns_lt hp, by simp⟩,
    fun h h' he _ ⟨_, _, _, _, _, _, _, _, _, _, e, q, hp⟩ => ⟨_, _, _, _, _, _, _, _, _, _, e, q, nv_fr (rgL_nv b D _ _ _ _ _ _ _ _ _ _) hp (by rw [← e]; exact he)⟩⟩
theorem owns_rg {b : Nat} {bs : List Nat} {D : RG} : owns [Ck.rg b bs D] = bs := by simp [owns, Ck.rg]
section
variable {h0 h h' : Heap} {M : List Nat} {B : List Ck} {b : Nat} {bs : List Nat} {D : RG}
theorem Sy.fnD {cs : List Ck} {k : Nat} (_ : Sy h0 M h cs) (_ : cs[k]? = some (Ck.rg b bs D)) : ∃ F, F = Ck.rg b := ⟨_, rfl⟩
theorem Sy.openD (Y : Sy h0 M h (Ck.rg b bs D :: B)) : ∃ nA nL nC eA eL eC mA mL mC ps, ps.map (·.2) = D.marks ∧ Sy h0 M h (Ck.ob b 155 [.slice nA nL nC, .slice eA eL eC, .int .i64 D.s.nn, .int .i64 D.s.ne, .slice mA mL mC, .int .i64 D.last] :: Ck.sl eI 3 nA nL nC D.s.ns :: Ck.sl e3 239 eA eL eC D.s.es :: Ck.sl eM 243 mA mL mC ps :: Ck.sts ps :: B) := by
  obtain ⟨_, _, _, _, _, _, _, _, _, _, e, q, hp⟩ := Y.ok (k := 0) rfl
  exact ⟨_, _, _, _, _, _, _, _, _, _, q, Y.unpack (rgL_nv b D _ _ _ _ _ _ _ _ _ _) e hp⟩
theorem Sy.packD (D : RG) {nA : Option Addr} {nL nC : Nat} {eA : Option Addr} {eL eC : Nat} {mA : Option Addr} {mL mC : Nat} {ps : List (StH × Int × RS)} (q : ps.map (·.2) = D.marks) (Y : Sy h0 M h (Ck.ob b 155 [.slice nA nL nC, .slice eA eL eC, .int .i64 D.s.nn, .int .i64 D.s.ne, .slice mA mL mC, .int .i64 D.last] :: Ck.sl eI 3 nA nL nC D.s.ns :: Ck.sl e3 239 eA eL eC D.s.es :: Ck.sl eM 243 mA mL mC ps :: Ck.sts ps :: B)) : Sy h0 M h (Ck.rg b (owns (rgL b D nA nL nC eA eL eC mA mL mC ps)) D :: B) := by
  have Y : Sy h0 M h (rgL b D nA nL nC eA eL eC mA mL mC ps ++ B) := Y
  refine Y.pack rfl rfl ⟨_, _, _, _, _, _, _, _, _, _, rfl, q, ⟨fun k c hk => Y.hp.ok k c (appL hk), fun i j c d hij hi hj => Y.hp.ap i j c d hij (appL hi) (appL hj)⟩⟩
/-- The lists of a new mark are kept. -/
theorem Sy.keepM {ps : List (StH × Int × RS)} {t : StH} {n : Int} {s : RS} (Y : Sy h0 M h (Ck.sts ps :: Ck.sl eI 3 t.na t.nl t.nc s.ns :: Ck.sl e3 239 t.ea t.el t.ec s.es :: B)) : Sy h0 M h (Ck.sts (ps ++ [(t, n, s)]) :: B) := by
  have Y' : Sy h0 M h ([Ck.sts ps, Ck.sl eI 3 t.na t.nl t.nc s.ns, Ck.sl e3 239 t.ea t.el t.ec s.es] ++ B) := Y
  refine Y'.pack (by simp [Ck.sts, owns, StH.bs, Ck.sl]) rfl fun p hp => ?_
  rw [List.mem_append, List.mem_singleton] at hp
  rcases hp with hp | rfl
  · exact (Y.ok (k := 0) rfl : ∀ p ∈ ps, StOK h p.1 p.2.2) p hp
  · exact ⟨Y.ownS 1 rfl, (Y.lenS 1 rfl).symm, Y.ownS 2 rfl, (Y.lenS 2 rfl).symm⟩
theorem To.stsTake {ps : List (StH × Int × RS)} (k : Nat) : To (Ck.sts ps) (Ck.sts (ps.take k)) :=
  ⟨fun h R p hp => R p (List.mem_of_mem_take hp), fun b hb => by
    obtain ⟨p, hp, hb⟩ := List.mem_flatMap.1 hb
    exact List.mem_flatMap.2 ⟨p, List.mem_of_mem_take hp, hb⟩, fun b hb => by simp [Ck.sts] at hb⟩
/-- A mark's lists, looked at. -/
theorem Sy.viewM {cs : List Ck} {ps : List (StH × Int × RS)} (Y : Sy h0 M h cs) (k : Nat) (hk : cs[k]? = some (Ck.sts ps)) {p : StH × Int × RS} (hp : p ∈ ps) : Hp h [Ck.vw eI p.1.na p.1.nl p.1.nc p.2.2.ns, Ck.vw e3 p.1.ea p.1.el p.1.ec p.2.2.es] := by
  have R := (Y.ok hk : ∀ p ∈ ps, StOK h p.1 p.2.2) p hp
  refine Hp.view ((To.slvw (E := eI) (ty := 3)).1 h ⟨R.n, R.nl⟩) rfl (Hp.view ((To.slvw (E := e3) (ty := 239)).1 h ⟨R.e, R.el⟩) rfl (Hp.nil h) ?_) ?_
  · intro k d hd; simp at hd
  · intro k d hd b hb
    cases k with
    | zero => simp at hd; subst hd; simp [Ck.vw] at hb
    | succ k => simp at hd
end
end Go.X
