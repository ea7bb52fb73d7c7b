/- Graphs that change, in memory: what undoes something as a value, slices of such values, the whole graph as one chunk. Conditions: none. -/
import Derived.Test.YtmcloipjlihhlaaYTwo
namespace Go.X

/-- What undoes something; 'any': nothing is told of it. -/
inductive Und where
  | popN
  | popE
  | ends (e en v : Int)
  | edge (e : Int)
  | node (v : Int)
  | any
/-- A function's value, and the blocks of what it holds. -/
structure FnR where
  f : Fn
  x : Array Value
  y : Array Value
  bs : List Nat
def FnR.val (r : FnR) : Value := .func r.f r.x r.y
def IsBox (h : Heap) (p : Nat) (v : Int) : Prop := h[p]? = some (.cells #[.int .i64 v] 3 (0, 0))
def Means (h : Heap) (r : FnR) : Und → Prop
  | .popN => r = ⟨.func 212, #[], #[], []⟩
  | .popE => r = ⟨.func 213, #[], #[], []⟩
  | .ends e en v => ∃ p q s, r = ⟨.func 214, #[], #[.pointer (some ⟨p, 0, none⟩), .pointer (some ⟨q, 0, none⟩), .pointer (some ⟨s, 0, none⟩)], [p, q, s]⟩ ∧ IsBox h p v ∧ IsBox h q e ∧ IsBox h s en
  | .edge e => ∃ p, r = ⟨.func 215, #[], #[.pointer (some ⟨p, 0, none⟩)], [p]⟩ ∧ IsBox h p e
  | .node v => ∃ p, r = ⟨.func 216, #[], #[.pointer (some ⟨p, 0, none⟩)], [p]⟩ ∧ IsBox h p v
  | .any => r.bs = []
theorem Means.lt {h : Heap} {r : FnR} {u : Und} (m : Means h r u) : ∀ b ∈ r.bs, b < h.size := by
  cases u with
  | popN => subst m; simp
  | popE => subst m; simp
  | ends e en v =>
    obtain ⟨p, q, s, rfl, h1, h2, h3⟩ := m
    intro b hb
    simp at hb
    rcases hb with rfl | rfl | rfl
    · exact blk_lt h1
    · exact blk_lt h2
    · exact blk_lt h3
  | edge e => obtain ⟨p, rfl, h1⟩ := m; intro b hb; simp at hb; subst hb; exact blk_lt h1
  | node e => obtain ⟨p, rfl, h1⟩ := m; intro b hb; simp at hb; subst hb; exact blk_lt h1
  | any => have e : r.bs = [] := m; simp [e]
theorem Means.blk {h h' : Heap} {r : FnR} {u : Und} (m : Means h r u) (e : ∀ b ∈ r.bs, h'[b]? = h[b]?) : Means h' r u := by
  cases u with
  | popN => exact m
  | popE => exact m
  | ends e' en v =>
    obtain ⟨p, q, s, rfl, h1, h2, h3⟩ := m
    exact ⟨p, q, s, rfl, (e p (by simp)).trans h1, (e q (by simp)).trans h2, (e s (by simp)).trans h3⟩
  | edge e' => obtain ⟨p, rfl, h1⟩ := m; exact ⟨p, rfl, (e p (by simp)).trans h1⟩
  | node e' => obtain ⟨p, rfl, h1⟩ := m; exact ⟨p, rfl, (e p (by simp)).trans h1⟩
  | any => exact m
/-- One such value, and what it holds. -/
def Ck.fv (r : FnR) (u : Und) : Ck := ⟨r.bs, [], fun h => Means h r u, fun _ m => ⟨m.lt, by simp⟩, fun _ _ e _ m => m.blk e⟩
structure UnOK (h : Heap) (a : Option Addr) (n c : Nat) (rs : List FnR) (us : List Und) : Prop where
  out : Ownd h 227 1 a n c (rs.map FnR.val)
  ln : rs.length = n
  lu : us.length = n
  row : ∀ (i : Nat) (r : FnR) (u : Und), rs[i]? = some r → us[i]? = some u → Means h r u
  na : ∀ r ∈ rs, ∀ b ∈ r.bs, b ∉ blkOf a
/-- A slice of them. -/
def Ck.un (a : Option Addr) (n c : Nat) (rs : List FnR) (us : List Und) : Ck :=
  ⟨blkOf a ++ rs.flatMap FnR.bs, [], fun h => UnOK h a n c rs us,
    fun h R => ⟨fun b hb => by
      rw [List.mem_append, List.mem_flatMap] at hb
      rcases hb with hb | ⟨r, hr, hb⟩
      · exact R.out.lt b hb
      · obtain ⟨i, hi, rfl⟩ := List.getElem_of_mem hr
        have hu : i < us.length := by rw [R.lu, ← R.ln]; exact hi
        exact (R.row i _ _ (List.getElem?_eq_getElem hi) (List.getElem?_eq_getElem hu)).lt b hb, by simp⟩,
    fun h h' he _ R => ⟨R.out.blk fun b hb => he b (List.mem_append_left _ hb), R.ln, R.lu, fun i r u h1 h2 => (R.row i r u h1 h2).blk fun b hb =>
      he b (List.mem_append_right _ (List.mem_flatMap.2 ⟨r, List.mem_of_getElem? h1, hb⟩)), R.na⟩⟩
section
variable {h0 h h' : Heap} {M : List Nat} {cs : List Ck} {a : Option Addr} {n c : Nat} {rs : List FnR} {us : List Und} {b : Nat}

theorem UnOK.u (R : UnOK h a n c rs us) {i : Nat} {r : FnR} (hr : rs[i]? = some r) : ∃ u, us[i]? = some u := by
  have := (List.getElem?_eq_some_iff.1 hr).1
  exact ⟨_, List.getElem?_eq_getElem (by rw [R.lu, ← R.ln]; exact this)⟩
theorem Sy.lenU (Y : Sy h0 M h cs) (k : Nat) (hk : cs[k]? = some (Ck.un a n c rs us)) : n = us.length := (Y.ok hk : UnOK ..).lu.symm
theorem Sy.ownU (Y : Sy h0 M h cs) (k : Nat) (hk : cs[k]? = some (Ck.un a n c rs us)) : Ownd h 227 1 a n c (rs.map FnR.val) := (Y.ok hk : UnOK ..).out
theorem Sy.nilU (Y : Sy h0 M h cs) : Sy h0 M h (cs ++ [Ck.un none 0 0 [] []]) :=
  Y.addN _ ⟨Ownd.nil _ _ _, rfl, rfl, fun i r u h => by simp at h, by simp⟩ rfl rfl
theorem Sy.nJU (Y : Sy h0 M h cs) (k j : Nat) (hkj : Nat.beq k j = false) (hk : cs[k]? = some (Ck.un a n c rs us)) {x : Nat} (hj : cs[j]? = some (Ck.junk x)) : x ∉ blkOf a := by
  have hne : k ≠ j := fun e => by subst e; simp at hkj
  exact fun hx => (Y.hp.ap k j _ _ hne hk hj x (List.mem_append_left _ hx)).1 (by simp [Ck.junk])
theorem Sy.atU (Y : Sy h0 M h cs) (k : Nat) (hk : cs[k]? = some (Ck.un a n c rs us)) {i : Int} (hi : 0 ≤ i) (hn : i < (n : Int)) :
    ∃ b, a = some ⟨b, 0, none⟩ ∧ ∃ r u, rs[i.toNat]? = some r ∧ us[i.toNat]? = some u ∧ hcell h b (0 + i.toNat * 1) = some r.val ∧ Means h r u := by
  have R : UnOK .. := Y.ok hk
  obtain ⟨g, cur, e, _⟩ := R.out.at (by omega)
  have hr : rs[i.toNat]? = some (rs[i.toNat]'(by rw [R.ln]; omega)) := List.getElem?_eq_getElem _
  obtain ⟨u, hu⟩ := R.u hr
  refine ⟨g, e, _, u, hr, hu, ?_, R.row _ _ _ hr hu⟩
  subst e
  rw [Nat.zero_add, Nat.mul_one]
  exact R.out.cell (by simp [hr])
theorem Sy.shrU (Y : Sy h0 M h cs) (k : Nat) (hk : cs[k]? = some (Ck.un a n c rs us)) (m : Nat) (hm : m ≤ n) : Sy h0 M h (cs.set k (Ck.un a m c (rs.take m) (us.take m))) := by
  have R : UnOK .. := Y.ok hk
  have sub : ∀ b ∈ (Ck.un a m c (rs.take m) (us.take m)).own, b ∈ (Ck.un a n c rs us).own := by
    intro b hb
    simp only [Ck.un, List.mem_append, List.mem_flatMap] at hb ⊢
    exact hb.imp id fun ⟨r, hr, hb⟩ => ⟨r, List.mem_of_mem_take hr, hb⟩
  refine Y.turn k hk ⟨fun h' o => ?_, sub, fun d hd => by simp [Ck.un] at hd⟩
  have o : UnOK h' a n c rs us := o
  obtain ⟨⟨h1, h2⟩, h3, h4, h5, h6⟩ := o
  refine ⟨⟨by simp; omega, ?_⟩, by simp; omega, by simp; omega, fun i r u q1 q2 => h5 i r u (getElem?_of_take q1) (getElem?_of_take q2), fun r hr => h6 r (List.mem_of_mem_take hr)⟩
  rcases h2 with ⟨rfl, rfl, rfl⟩ | ⟨g, cur, rfl, q1, q2, q3, q4, q5⟩
  · exact .inl ⟨rfl, by omega, rfl⟩
  · refine .inr ⟨g, cur, rfl, q1, by omega, q3, q4, ?_⟩
    rw [List.map_take, ← q5, List.take_take, Nat.mul_one, Nat.mul_one, Nat.min_eq_left hm]
where
  getElem?_of_take {β : Type} {l : List β} {m i : Nat} {x : β} (h : (l.take m)[i]? = some x) : l[i]? = some x := by
    rw [List.getElem?_take] at h
    split at h
    · exact h
    · cases h
/-- What undoes something is kept. -/
theorem Sy.appU (Y : Sy h0 M h cs) (k j : Nat) (hkj : Nat.beq k j = false) (hk : cs[k]? = some (Ck.un a n c rs us)) {r : FnR} {u : Und} (hj : cs[j]? = some (Ck.fv r u))
    {sA : Option Addr} {sC : Nat} (ow : Ownd h' 227 1 sA (n + 1) sC (rs.map FnR.val ++ [r.val])) (f : Fr (blkOf a) h h') (g : (sA = a ∧ sC = c) ∨ ∃ g, sA = some ⟨g, 0, none⟩ ∧ h.size ≤ g) :
    Sy h0 M h' ((cs.set k (Ck.un sA (n + 1) sC (rs ++ [r]) (us ++ [u]))).set j Ck.no) := by
  have hne : k ≠ j := fun e => by subst e; simp at hkj
  have R : UnOK .. := Y.ok hk
  have S : Means h r u := Y.ok hj
  have inA : ∀ d ∈ blkOf a, d ∈ (Ck.un a n c rs us).own := fun d hd => List.mem_append_left _ hd
  have inR : ∀ s ∈ rs, ∀ d ∈ s.bs, d ∈ (Ck.un a n c rs us).own := fun s hs d hd => List.mem_append_right _ (List.mem_flatMap.2 ⟨s, hs, hd⟩)
  have jap : ∀ d ∈ (Ck.un a n c rs us).own, d ∉ r.bs := fun d hd => (Y.hp.ap k j _ _ hne hk hj d hd).1
  have lt : ∀ s ∈ rs, ∀ d ∈ s.bs, d < h.size := fun s hs d hd => ((Ck.un a n c rs us).lt h R).1 d (inR s hs d hd)
  have sAb : ∀ d ∈ blkOf sA, d ∈ blkOf a ∨ h.size ≤ d := by
    intro d hd
    rcases g with ⟨rfl, _⟩ | ⟨g, rfl, hg⟩
    · exact .inl hd
    · simp [blkOf] at hd; subst hd; exact .inr hg
  refine Y.mut2 hne hk hj _ _ f.size (fun d hd hn => f.blk d hd fun q => hn (inA d q)) ?_ trivial (fun d hd => ?_) (fun d hd => by simp [Ck.no] at hd) (fun d hd => by simp [Ck.un] at hd) (fun d hd => by simp [Ck.no] at hd) Ap.no Ap.ofno
  · refine ⟨by simpa using ow, by simp [R.ln], by simp [R.lu], fun p s v h1 h2 => ?_, fun s hs d hd q => ?_⟩
    · rcases app_get h1 with ⟨e1, rfl⟩ | ⟨n1, h1⟩
      · rcases app_get h2 with ⟨_, rfl⟩ | ⟨n2, _⟩
        · exact S.blk fun d hd => f.blk d (S.lt d hd) fun q => jap d (inA d q) hd
        · exact absurd (e1.trans (R.ln.trans R.lu.symm)) n2
      · rcases app_get h2 with ⟨e2, _⟩ | ⟨_, h2⟩
        · exact absurd (e2.trans (R.lu.trans R.ln.symm)) n1
        · exact (R.row p s v h1 h2).blk fun d hd => f.blk d (lt s (List.mem_of_getElem? h1) d hd) (R.na s (List.mem_of_getElem? h1) d hd)
    · rw [List.mem_append, List.mem_singleton] at hs
      rcases hs with hs | rfl
      · rcases sAb d q with q | q
        · exact R.na s hs d hd q
        · have := lt s hs d hd; omega
      · rcases sAb d q with q | q
        · exact jap d (inA d q) hd
        · have := S.lt d hd; omega
  · simp only [Ck.un, List.mem_append, List.mem_flatMap] at hd
    rcases hd with hd | ⟨s, hs, hd⟩
    · rcases sAb d hd with q | q
      · exact .inl (inA d q)
      · exact .inr (.inr q)
    · rcases hs with hs | hs
      · exact .inl (inR s hs d hd)
      · simp at hs; subst hs; exact .inr (.inl hd)
end

theorem nv_fr {cs : List Ck} (nv : Nv cs) {h h' : Heap} (H : Hp h cs) (he : ∀ b ∈ owns cs, h'[b]? = h[b]?) : Hp h' cs :=
  ⟨fun k c hk => c.fr h h' (fun b hb => he b (List.mem_flatMap.2 ⟨c, List.mem_of_getElem? hk, hb⟩)) (fun b hb => by rw [nv.get hk] at hb; cases hb) (H.ok k c hk), H.ap⟩
theorem owns_lt {cs : List Ck} {h : Heap} (H : Hp h cs) : ∀ b ∈ owns cs, b < h.size := by
  intro b hb
  obtain ⟨c, hc, hb⟩ := List.mem_flatMap.1 hb
  obtain ⟨k, hk, rfl⟩ := List.getElem_of_mem hc
  exact (cs[k].lt h (H.ok k _ (List.getElem?_eq_getElem hk))).1 b hb
theorem mem_owns {cs : List Ck} {b : Nat} (hb : b ∈ owns cs) : ∃ (k : Nat) (c : Ck), cs[k]? = some c ∧ b ∈ c.own := by
  obtain ⟨c, hc, hb⟩ := List.mem_flatMap.1 hb
  obtain ⟨k, hk, rfl⟩ := List.getElem_of_mem hc
  exact ⟨k, _, List.getElem?_eq_getElem hk, hb⟩
theorem owns_mem {cs : List Ck} {k : Nat} {c : Ck} {b : Nat} (hk : cs[k]? = some c) (hb : b ∈ c.own) : b ∈ owns cs := List.mem_flatMap.2 ⟨c, List.mem_of_getElem? hk, hb⟩
section
variable {h0 h h' : Heap} {M : List Nat} {A B : List Ck}
theorem appL {k : Nat} {c : Ck} (hk : A[k]? = some c) : (A ++ B)[k]? = some c := by rw [List.getElem?_append_left (List.getElem?_eq_some_iff.1 hk).1]; exact hk
theorem appR' {k : Nat} {c : Ck} (hk : B[k]? = some c) : (A ++ B)[A.length + k]? = some c := by rw [List.getElem?_append_right (by omega)]; simpa using hk
theorem app_cases {k : Nat} {c : Ck} (hk : (A ++ B)[k]? = some c) : (k < A.length ∧ A[k]? = some c) ∨ (A.length ≤ k ∧ B[k - A.length]? = some c) := by
  by_cases hl : k < A.length
  · rw [List.getElem?_append_left hl] at hk; exact .inl ⟨hl, hk⟩
  · rw [List.getElem?_append_right (by omega)] at hk; exact .inr ⟨by omega, hk⟩
theorem Sy.pack (Y : Sy h0 M h (A ++ B)) {c : Ck} (ho : c.own = owns A) (hr : c.rd = []) (hc : c.ok h) : Sy h0 M h (c :: B) := by
  have cB : ∀ (k : Nat) (d : Ck), B[k]? = some d → Ap c d ∧ Ap d c := fun k d hd => ⟨fun b hb => by
      rw [ho] at hb
      obtain ⟨i, e, he, hb⟩ := mem_owns hb
      exact Y.hp.ap i (A.length + k) e d (by have := (List.getElem?_eq_some_iff.1 he).1; omega) (appL he) (appR' hd) b hb,
    fun b hb => ⟨fun q => by
      rw [ho] at q
      obtain ⟨i, e, he, q⟩ := mem_owns q
      exact (Y.hp.ap (A.length + k) i d e (by have := (List.getElem?_eq_some_iff.1 he).1; omega) (appR' hd) (appL he) b hb).1 q, by simp [hr]⟩⟩
  refine ⟨Y.fr, Hp.cons hc cB ⟨fun k d hd => Y.hp.ok _ d (appR' hd), fun i j d e hij hd he => Y.hp.ap _ _ d e (by omega) (appR' hd) (appR' he)⟩, fun k d hd b hb => ?_⟩
  cases k with
  | zero =>
    simp at hd; subst hd
    rw [ho] at hb
    obtain ⟨i, e, he, hb⟩ := mem_owns hb
    exact Y.ow i e (appL he) b hb
  | succ k => exact Y.ow _ d (appR' (by simpa using hd)) b hb
theorem Sy.unpack {c : Ck} (Y : Sy h0 M h (c :: B)) (nv : Nv A) (ho : c.own = owns A) (H : Hp h A) : Sy h0 M h (A ++ B) := by
  have c0 : (c :: B)[0]? = some c := rfl
  have cS : ∀ {k : Nat} {d : Ck}, B[k]? = some d → (c :: B)[k + 1]? = some d := fun hd => by simpa using hd
  refine ⟨Y.fr, ⟨fun k d hd => ?_, fun i j d e hij hd he => ?_⟩, fun k d hd b hb => ?_⟩
  · rcases app_cases hd with ⟨_, hd⟩ | ⟨_, hd⟩
    · exact H.ok k d hd
    · exact Y.hp.ok _ d (cS hd)
  · rcases app_cases hd with ⟨l1, hd⟩ | ⟨l1, hd⟩
    · rcases app_cases he with ⟨l2, he⟩ | ⟨l2, he⟩
      · exact H.ap i j d e hij hd he
      · exact fun b hb => Y.hp.ap 0 _ c e (by omega) c0 (cS he) b (by rw [ho]; exact owns_mem hd hb)
    · rcases app_cases he with ⟨l2, he⟩ | ⟨l2, he⟩
      · exact fun b hb => ⟨fun q => (Y.hp.ap _ 0 d c (by omega) (cS hd) c0 b hb).1 (by rw [ho]; exact owns_mem he q), by rw [nv.get he]; simp⟩
      · exact Y.hp.ap _ _ d e (by omega) (cS hd) (cS he)
  · rcases app_cases hd with ⟨_, hd⟩ | ⟨_, hd⟩
    · exact Y.ow 0 c c0 b (by rw [ho]; exact owns_mem hd hb)
    · exact Y.ow _ d (cS hd) b hb
end

structure Gr where
  nodes : List Bool
  edges : List (Int × Int × Bool)
  ln : Int
  le : Int
  undo : List Und
  marks : List (Int × Int)
  last : Int
def grL (b : Nat) (G : Gr) (nA : Option Addr) (nL nC : Nat) (eA : Option Addr) (eL eC : Nat) (uA : Option Addr) (uL uC : Nat) (rs : List FnR) (mA : Option Addr) (mL mC : Nat) : List Ck := [Ck.ob b 204 [.bool true, .slice nA nL nC, .slice eA eL eC, .int .i64 G.ln, .int .i64 G.le, .slice uA uL uC, .slice mA mL mC, .int .i64 G.last], Ck.sl eB 4 nA nL nC G.nodes, Ck.sl e2B 199 eA eL eC G.edges, Ck.un uA uL uC rs G.undo, Ck.sl eP 226 mA mL mC G.marks]
theorem grL_nv (b : Nat) (G : Gr) (nA : Option Addr) (nL nC : Nat) (eA : Option Addr) (eL eC : Nat) (uA : Option Addr) (uL uC : Nat) (rs : List FnR) (mA : Option Addr) (mL mC : Nat) : Nv (grL b G nA nL nC eA eL eC uA uL uC rs mA mL mC) := ⟨rfl, rfl, rfl, rfl, rfl, trivial⟩
def Ck.gr (b : Nat) (bs : List Nat) (G : Gr) : Ck :=
  ⟨bs, [], fun h => ∃ nA nL nC eA eL eC uA uL uC rs mA mL mC, bs = owns (grL b G nA nL nC eA eL eC uA uL uC rs mA mL mC) ∧ Hp h (grL b G nA nL nC eA eL eC uA uL uC rs mA mL mC), fun h ⟨_, _, _, _, _, _, _, _, _, _, _, _, _, e, hp⟩ => ⟨by rw [e]; exact owns_lt hp, by simp⟩,
    fun h h' he _ ⟨_, _, _, _, _, _, _, _, _, _, _, _, _, e, hp⟩ => ⟨_, _, _, _, _, _, _, _, _, _, _, _, _, e, nv_fr (grL_nv b G _ _ _ _ _ _ _ _ _ _ _ _ _) hp (by rw [← e]; exact he)⟩⟩
section
variable {h0 h h' : Heap} {M : List Nat} {B : List Ck} {b : Nat} {bs : List Nat} {G : Gr}
theorem Sy.fnG {cs : List Ck} {k : Nat} (_ : Sy h0 M h cs) (_ : cs[k]? = some (Ck.gr b bs G)) : ∃ F, F = Ck.gr b := ⟨_, rfl⟩
theorem Sy.openG (Y : Sy h0 M h (Ck.gr b bs G :: B)) : ∃ nA nL nC eA eL eC uA uL uC rs mA mL mC, Sy h0 M h (Ck.ob b 204 [.bool true, .slice nA nL nC, .slice eA eL eC, .int .i64 G.ln, .int .i64 G.le, .slice uA uL uC, .slice mA mL mC, .int .i64 G.last] :: Ck.sl eB 4 nA nL nC G.nodes :: Ck.sl e2B 199 eA eL eC G.edges :: Ck.un uA uL uC rs G.undo :: Ck.sl eP 226 mA mL mC G.marks :: B) := by
  obtain ⟨_, _, _, _, _, _, _, _, _, _, _, _, _, e, hp⟩ := Y.ok (k := 0) rfl
  exact ⟨_, _, _, _, _, _, _, _, _, _, _, _, _, Y.unpack (grL_nv b G _ _ _ _ _ _ _ _ _ _ _ _ _) e hp⟩
theorem Sy.packG (G : Gr) {nA : Option Addr} {nL nC : Nat} {eA : Option Addr} {eL eC : Nat} {uA : Option Addr} {uL uC : Nat} {rs : List FnR} {mA : Option Addr} {mL mC : Nat} (Y : Sy h0 M h (Ck.ob b 204 [.bool true, .slice nA nL nC, .slice eA eL eC, .int .i64 G.ln, .int .i64 G.le, .slice uA uL uC, .slice mA mL mC, .int .i64 G.last] :: Ck.sl eB 4 nA nL nC G.nodes :: Ck.sl e2B 199 eA eL eC G.edges :: Ck.un uA uL uC rs G.undo :: Ck.sl eP 226 mA mL mC G.marks :: B)) : Sy h0 M h (Ck.gr b (owns (grL b G nA nL nC eA eL eC uA uL uC rs mA mL mC)) G :: B) := by
  have Y : Sy h0 M h (grL b G nA nL nC eA eL eC uA uL uC rs mA mL mC ++ B) := Y
  refine Y.pack rfl rfl ⟨_, _, _, _, _, _, _, _, _, _, _, _, _, rfl, ⟨fun k c hk => Y.hp.ok k c (appL hk), fun i j c d hij hi hj => Y.hp.ap i j c d hij (appL hi) (appL hj)⟩⟩
end
end Go.X
