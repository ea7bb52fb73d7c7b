/- The chunks: slices of one's own, views, slices of slices, blocks behind pointers; what reads and writes make of them. Conditions: none. -/
import Derived.Test.YtmcloipjlihhlaaYSy
namespace Go.X

theorem some_blk {h h' : Heap} {b : Nat} (hb : b < h.size) (e : h'[b]? = h[b]?) : b < h'.size := by
  rw [Array.getElem?_eq_getElem hb] at e
  exact (Array.getElem?_eq_some_iff.1 e).1
def rdOf (a : Option Addr) : Nat → List Nat
  | 0 => []
  | _ + 1 => blkOf a
theorem rdOf_sub {a : Option Addr} {n b : Nat} (h : b ∈ rdOf a n) : b ∈ blkOf a := by
  cases n with
  | zero => simp [rdOf] at h
  | succ n => exact h
theorem rd_mem {a : Option Addr} {b o n : Nat} (e : a = some ⟨b, o, none⟩) (hn : 0 < n) : b ∈ rdOf a n := by
  cases n with
  | zero => omega
  | succ n => simp [rdOf, e, blkOf]
theorem Reads.lt {h : Heap} {sz n : Nat} {a : Option Addr} {xs : List Value} (r : Reads h sz a n xs) (hs : 0 < sz) : ∀ b ∈ rdOf a n, b < h.size := by
  intro b hb
  cases n with
  | zero => simp [rdOf] at hb
  | succ n =>
    rcases r.2 with ⟨_, h0⟩ | ⟨b', o, e, hc⟩
    · omega
    · subst e
      simp [rdOf, blkOf] at hb; subst hb
      have hl : 0 < xs.length := by rw [r.1]; exact Nat.mul_pos (by omega) hs
      exact hcell_lt (hc 0 _ (List.getElem?_eq_getElem hl))
theorem Reads.at2 {h h' : Heap} {sz n : Nat} {a : Option Addr} {xs : List Value} (r : Reads h sz a n xs) (he : ∀ b ∈ rdOf a n, h'[b]? = h[b]?) : Reads h' sz a n xs := by
  obtain ⟨h1, h2⟩ := r
  refine ⟨h1, h2.imp id ?_⟩
  rintro ⟨b, o, rfl, h3⟩
  refine ⟨b, o, rfl, fun j v hj => ?_⟩
  rw [hcell_congr (he b ?_)]
  · exact h3 j v hj
  · cases n with
    | zero => simp at h1; subst h1; simp at hj
    | succ n => simp [rdOf, blkOf]
/-- Laid, and nothing told of it. -/
def Ck.junk (b : Nat) : Ck := ⟨[b], [], fun h => b < h.size, fun h hb => ⟨by simpa using hb, by simp⟩, fun h h' he _ hb => some_blk hb (he b (by simp))⟩
/-- Nothing. -/
def Ck.no : Ck := ⟨[], [], fun _ => True, fun _ _ => ⟨by simp, by simp⟩, fun _ _ _ _ _ => trivial⟩
/-- A slice of one's own. -/
def Ck.sl {α : Type} (E : En α) (ty : TypeId) (a : Option Addr) (n c : Nat) (xs : List α) : Ck :=
  ⟨blkOf a, [], fun h => Own h ty E.sz a n c (E.l xs) ∧ xs.length = n, fun h o => ⟨o.1.lt, by simp⟩, fun h h' he _ o => ⟨o.1.blk he, o.2⟩⟩
/-- A slice that is only looked at. -/
def Ck.vw {α : Type} (E : En α) (a : Option Addr) (n c : Nat) (xs : List α) : Ck :=
  ⟨[], rdOf a n, fun h => Reads h E.sz a n (E.l xs) ∧ xs.length = n ∧ n ≤ c ∧ (a = none → c = 0), fun h o => ⟨by simp, o.1.lt E.pos⟩, fun h h' _ he o => ⟨o.1.at2 he, o.2⟩⟩
/-- A block behind a pointer, one's own. -/
def Ck.ob (b : Nat) (ty : TypeId) (cells : List Value) : Ck :=
  ⟨[b], [], fun h => h[b]? = some (.cells cells.toArray ty (0, 0)), fun h o => ⟨by simpa using blk_lt o, by simp⟩, fun h h' he _ o => (he b (by simp)).trans o⟩
/-- Cells behind a pointer that are only looked at. -/
def Ck.vob (b o : Nat) (cells : List Value) : Ck :=
  ⟨[], [b], fun h => b < h.size ∧ ∀ (j : Nat) (v : Value), cells[j]? = some v → hcell h b (o + j) = some v, fun h o => ⟨by simp, by simpa using o.1⟩,
    fun h h' _ he o => ⟨some_blk o.1 (he b (by simp)), fun j v hj => by rw [hcell_congr (he b (by simp))]; exact o.2 j v hj⟩⟩
structure RowH where
  a : Option Addr
  n : Nat
  c : Nat
def RowH.val (r : RowH) : Value := .slice r.a r.n r.c
/-- The blocks of the rows that are in. -/
def rblk (P : Nat → Bool) : Nat → List RowH → List Nat
  | _, [] => []
  | i, r :: rs => (match P i with
    | true => []
    | false => blkOf r.a) ++ rblk P (i + 1) rs
theorem mem_rblk {P : Nat → Bool} : ∀ {rs : List RowH} {i b : Nat}, b ∈ rblk P i rs ↔ ∃ (j : Nat) (r : RowH), rs[j]? = some r ∧ P (i + j) = false ∧ b ∈ blkOf r.a
  | [], i, b => by simp [rblk]
  | r :: rs, i, b => by
    simp only [rblk, List.mem_append]
    constructor
    · rintro (h | h)
      · cases hp : P i with
        | true => rw [hp] at h; simp at h
        | false => rw [hp] at h; exact ⟨0, r, rfl, by simpa using hp, h⟩
      · obtain ⟨j, s, h1, h2, h3⟩ := mem_rblk.1 h
        exact ⟨j + 1, s, by simpa using h1, by rw [show i + (j + 1) = i + 1 + j by omega]; exact h2, h3⟩
    · rintro ⟨j, s, h1, h2, h3⟩
      cases j with
      | zero => simp at h1; subst h1; left; simp at h2; rw [h2]; exact h3
      | succ j => right; exact mem_rblk.2 ⟨j, s, by simpa using h1, by rw [show i + 1 + j = i + (j + 1) by omega]; exact h2, h3⟩
structure RowsOK {α : Type} (E : En α) (P : Nat → Bool) (t1 t2 : TypeId) (a : Option Addr) (n c : Nat) (rs : List RowH) (xss : List (List α)) (h : Heap) : Prop where
  out : Own h t1 1 a n c (rs.map RowH.val)
  ln : rs.length = n
  lx : xss.length = n
  row : ∀ (i : Nat) (r : RowH) (xs : List α), rs[i]? = some r → xss[i]? = some xs → P i = false → Own h t2 E.sz r.a r.n r.c (E.l xs) ∧ xs.length = r.n
  ap : ∀ (i j : Nat) (r s : RowH), i ≠ j → rs[i]? = some r → rs[j]? = some s → P i = false → P j = false → ∀ b ∈ blkOf r.a, b ∉ blkOf s.a
  na : ∀ (i : Nat) (r : RowH), rs[i]? = some r → P i = false → ∀ b ∈ blkOf r.a, b ∉ blkOf a
theorem RowsOK.xs {α : Type} {E : En α} {P : Nat → Bool} {t1 t2 : TypeId} {a : Option Addr} {n c : Nat} {rs : List RowH} {xss : List (List α)} {h : Heap} (R : RowsOK E P t1 t2 a n c rs xss h) {i : Nat} {r : RowH} (hr : rs[i]? = some r) : ∃ xs, xss[i]? = some xs := by
  have := (List.getElem?_eq_some_iff.1 hr).1
  exact ⟨_, List.getElem?_eq_getElem (by rw [R.lx, ← R.ln]; exact this)⟩
theorem RowsOK.r {α : Type} {E : En α} {P : Nat → Bool} {t1 t2 : TypeId} {a : Option Addr} {n c : Nat} {rs : List RowH} {xss : List (List α)} {h : Heap} (R : RowsOK E P t1 t2 a n c rs xss h) {i : Nat} {xs : List α} (hr : xss[i]? = some xs) : ∃ r, rs[i]? = some r := by
  have := (List.getElem?_eq_some_iff.1 hr).1
  exact ⟨_, List.getElem?_eq_getElem (by rw [R.ln, ← R.lx]; exact this)⟩
def Ck.rowsG {α : Type} (E : En α) (P : Nat → Bool) (t1 t2 : TypeId) (a : Option Addr) (n c : Nat) (rs : List RowH) (xss : List (List α)) : Ck :=
  ⟨blkOf a ++ rblk P 0 rs, [], RowsOK E P t1 t2 a n c rs xss,
    fun h R => ⟨fun b hb => by
      rw [List.mem_append] at hb
      rcases hb with hb | hb
      · exact R.out.lt b hb
      · obtain ⟨j, r, h1, h2, h3⟩ := mem_rblk.1 hb
        rw [Nat.zero_add] at h2
        obtain ⟨xs, hx⟩ := R.xs h1
        exact (R.row j r xs h1 hx h2).1.lt b h3, by simp⟩,
    fun h h' he _ R => ⟨R.out.blk fun b hb => he b (List.mem_append_left _ hb), R.ln, R.lx, fun i r xs h1 h2 h3 => ⟨(R.row i r xs h1 h2 h3).1.blk fun b hb => he b (List.mem_append_right _ (mem_rblk.2 ⟨i, r, h1, by rw [Nat.zero_add]; exact h3, hb⟩)), (R.row i r xs h1 h2 h3).2⟩, R.ap, R.na⟩⟩
/-- Rows of one's own. -/
def Ck.rows {α : Type} (E : En α) (t1 t2 : TypeId) (a : Option Addr) (n c : Nat) (rs : List RowH) (xss : List (List α)) : Ck := Ck.rowsG E (fun _ => false) t1 t2 a n c rs xss
/-- All but one. -/
def Ck.rowsX {α : Type} (E : En α) (i : Nat) (t1 t2 : TypeId) (a : Option Addr) (n c : Nat) (rs : List RowH) (xss : List (List α)) : Ck := Ck.rowsG E (Nat.beq i) t1 t2 a n c rs xss
structure VRowsOK {α : Type} (E : En α) (a : Option Addr) (n c : Nat) (rs : List RowH) (xss : List (List α)) (h : Heap) : Prop where
  out : Reads h 1 a n (rs.map RowH.val)
  ln : rs.length = n
  lx : xss.length = n
  nc : n ≤ c ∧ (a = none → c = 0)
  row : ∀ (i : Nat) (r : RowH) (xs : List α), rs[i]? = some r → xss[i]? = some xs → Reads h E.sz r.a r.n (E.l xs) ∧ xs.length = r.n ∧ r.n ≤ r.c ∧ (r.a = none → r.c = 0)
def vblk (rs : List RowH) : List Nat := rs.flatMap fun r => rdOf r.a r.n
theorem mem_vblk {rs : List RowH} {b : Nat} : b ∈ vblk rs ↔ ∃ (j : Nat) (r : RowH), rs[j]? = some r ∧ b ∈ rdOf r.a r.n := by
  simp only [vblk, List.mem_flatMap]
  constructor
  · rintro ⟨r, h1, h2⟩
    obtain ⟨j, hj, rfl⟩ := List.getElem_of_mem h1
    exact ⟨j, _, List.getElem?_eq_getElem hj, h2⟩
  · rintro ⟨j, r, h1, h2⟩
    exact ⟨r, List.mem_of_getElem? h1, h2⟩
/-- Rows that are only looked at. -/
def Ck.vrows {α : Type} (E : En α) (a : Option Addr) (n c : Nat) (rs : List RowH) (xss : List (List α)) : Ck :=
  ⟨[], rdOf a n ++ vblk rs, VRowsOK E a n c rs xss,
    fun h R => ⟨by simp, fun b hb => by
      rw [List.mem_append] at hb
      rcases hb with hb | hb
      · exact R.out.lt (by decide) b hb
      · obtain ⟨j, r, h1, h3⟩ := mem_vblk.1 hb
        have hj := (List.getElem?_eq_some_iff.1 h1).1
        exact (R.row j r _ h1 (List.getElem?_eq_getElem (by rw [R.lx, ← R.ln]; exact hj))).1.lt E.pos b h3⟩,
    fun h h' _ he R => ⟨R.out.at2 fun b hb => he b (List.mem_append_left _ hb), R.ln, R.lx, R.nc, fun i r xs h1 h2 =>
      ⟨(R.row i r xs h1 h2).1.at2 fun b hb => he b (List.mem_append_right _ (mem_vblk.2 ⟨i, r, h1, hb⟩)), (R.row i r xs h1 h2).2⟩⟩⟩
section
variable {α : Type} {E : En α} {h0 h h' : Heap} {M : List Nat} {cs : List Ck} {ty t1 t2 : TypeId} {a : Option Addr} {n c : Nat} {xs ys : List α} {xss : List (List α)} {rs : List RowH} {b o : Nat} {cells : List Value} {P : Nat → Bool}

theorem Sy.atS (Y : Sy h0 M h cs) (k : Nat) (hk : cs[k]? = some (Ck.sl E ty a n c xs)) {i : Int} (hi : 0 ≤ i) (hn : i < (n : Int)) :
    ∃ b, a = some ⟨b, 0, none⟩ ∧ b ∈ (Ck.sl E ty a n c xs).own ∧ ∃ x, xs[i.toNat]? = some x := by
  obtain ⟨ow, ln⟩ := Y.ok hk
  obtain ⟨g, cur, e, _⟩ := ow.at (by omega)
  exact ⟨g, e, by show g ∈ blkOf a; simp [e, blkOf], _, List.getElem?_eq_getElem (by omega)⟩
theorem Sy.cellS (Y : Sy h0 M h cs) (k : Nat) (hk : cs[k]? = some (Ck.sl E ty a n c xs)) (ha : a = some ⟨b, 0, none⟩) {i t : Nat} {x : α} {v : Value} (hx : xs[i]? = some x) (hv : (E.enc x)[t]? = some v) :
    hcell h b (0 + i * E.sz + t) = some v := by
  subst ha
  rw [Nat.zero_add]
  exact (Y.ok hk).1.cell (En.l_get hx hv)
theorem Sy.freeS (Y : Sy h0 M h cs) (k : Nat) (hk : cs[k]? = some (Ck.sl E ty a n c xs)) (ha : a = some ⟨b, 0, none⟩) (o : Nat) : hfree h b o = true := by
  subst ha
  exact (Y.ok hk).1.free o
theorem Sy.lenS (Y : Sy h0 M h cs) (k : Nat) (hk : cs[k]? = some (Ck.sl E ty a n c xs)) : n = xs.length := (Y.ok hk).2.symm
theorem Sy.ownS (Y : Sy h0 M h cs) (k : Nat) (hk : cs[k]? = some (Ck.sl E ty a n c xs)) : Own h ty E.sz a n c (E.l xs) := (Y.ok hk).1
theorem Sy.readsS (Y : Sy h0 M h cs) (k : Nat) (hk : cs[k]? = some (Ck.sl E ty a n c xs)) : Reads h E.sz a n (E.l xs) := (Y.ok hk).1.reads
theorem Own.nc {h : Heap} {e sz n c : Nat} {a : Option Addr} {xs : List Value} (o : Own h e sz a n c xs) : a = none → c = 0 := by
  rintro rfl
  rcases o.2 with ⟨_, _, h⟩ | ⟨g, cur, h, _⟩
  · exact h
  · cases h
theorem Sy.capS (Y : Sy h0 M h cs) (k : Nat) (hk : cs[k]? = some (Ck.sl E ty a n c xs)) : n ≤ c ∧ c ≤ maxLen ∧ (a = none → c = 0) := ⟨(Y.ok hk).1.cap.1, (Y.ok hk).1.cap.2, (Y.ok hk).1.nc⟩
theorem Sy.nilS (Y : Sy h0 M h cs) (E : En α) (ty : TypeId) : Sy h0 M h (cs ++ [Ck.sl E ty none 0 0 []]) :=
  Y.addN _ ⟨Own.nil _ _ _, rfl⟩ rfl rfl
theorem Sy.litS (Y : Sy h0 M h cs) {vs : Array Value} (ys : List α) (hv : (E.l ys).toArray = vs) (hn : ys.length ≤ maxLen) : Sy h0 M (h.push (.cells vs ty)) (cs ++ [Ck.sl E ty (some ⟨h.size, 0, none⟩) ys.length ys.length ys]) := by
  subst hv
  exact Y.add (Fr.push h _) _ ⟨own_new (En.l_len ys) hn, rfl⟩ (by simp [Ck.sl, blkOf]) (by simp [Ck.sl])
theorem madeCells_l (z : α) (n : Nat) : (madeCells (E.enc z).toArray (n * E.sz)).toList = E.l (List.replicate n z) := by
  have hp := E.pos
  apply List.ext_getElem?
  intro j
  have hl : (E.l (List.replicate n z)).length = n * E.sz := by rw [En.l_len]; simp
  by_cases hj : j < n * E.sz
  · have h1 : (madeCells (E.enc z).toArray (n * E.sz)).toList[j]? = some (((E.enc z).toArray)[j % E.sz]!) := by
      simp [madeCells, hj, E.len]
    have hm : j % E.sz < E.sz := Nat.mod_lt _ hp
    have hm2 : j % E.sz < (E.enc z).length := by rw [E.len]; exact hm
    have h2 : (List.replicate n z)[j / E.sz]? = some z := by
      rw [List.getElem?_replicate, if_pos ((Nat.div_lt_iff_lt_mul hp).2 hj)]
    have h3 := En.l_get (E := E) h2 (List.getElem?_eq_getElem hm2)
    rw [show j / E.sz * E.sz + j % E.sz = j by rw [Nat.mul_comm]; exact Nat.div_add_mod j E.sz] at h3
    rw [h1, h3]
    simp [hm2]
  · rw [List.getElem?_eq_none (by simp [size_madeCells]; omega), List.getElem?_eq_none (by omega)]
theorem Sy.mkS (Y : Sy h0 M h cs) (z : α) (m n : Nat) (hnm : n ≤ m) (hm : m ≤ maxLen) :
    Sy h0 M (h.push (.cells (madeCells (E.enc z).toArray (m * E.sz)) ty)) (cs ++ [Ck.sl E ty (some ⟨h.size, 0, none⟩) n m (List.replicate n z)]) := by
  refine Y.add (Fr.push h _) _ ⟨⟨by simp [En.l_len], .inr ⟨h.size, _, rfl, blk_push_new, hnm, hm, by simp [size_madeCells], ?_⟩⟩, by simp⟩ (by simp [Ck.sl, blkOf]) (by simp [Ck.sl])
  rw [madeCells_l, En.l_take, List.take_replicate, Nat.min_eq_left hnm]
theorem Sy.stS (Y : Sy h0 M h cs) (k : Nat) (hk : cs[k]? = some (Ck.sl E ty a n c xs)) (ha : a = some ⟨b, 0, none⟩) {i t : Nat} {x : α} (x' : α) {v : Value} (hx : xs[i]? = some x) (ht : t < E.sz) (hv : E.enc x' = (E.enc x).set t v) :
    Sy h0 M (hset h b (0 + i * E.sz + t) v) (cs.set k (Ck.sl E ty a n c (xs.set i x'))) := by
  subst ha
  obtain ⟨ow, ln⟩ := Y.ok hk
  refine Y.mut hk _ (by simp) (fun d _ hd => hset_ne (by rintro rfl; exact hd (by simp [Ck.sl, blkOf]))) ⟨?_, by simpa using ln⟩ (fun d hd => .inl hd) (fun d hd => by simp [Ck.sl] at hd)
  have := ow.set (0 + i * E.sz + t) v
  rw [Nat.zero_add, En.l_set hx ht hv] at this
  rw [Nat.zero_add]; exact this
/-- A whole element of one cell. -/
theorem Sy.st1 (Y : Sy h0 M h cs) (k : Nat) (hk : cs[k]? = some (Ck.sl E ty a n c xs)) (ha : a = some ⟨b, 0, none⟩) {i : Nat} (x' : α) {v : Value} (hi : i < n) (hv : E.enc x' = [v]) :
    Sy h0 M (hset h b (0 + i * E.sz) v) (cs.set k (Ck.sl E ty a n c (xs.set i x'))) := by
  have hs : E.sz = 1 := by have := E.len x'; rw [hv] at this; exact this.symm
  have hl := Y.lenS k hk
  have hx : xs[i]? = some xs[i] := List.getElem?_eq_getElem (by omega)
  have e : ∀ y, ∃ u, E.enc y = [u] := fun y => by
    have := E.len y; rw [hs] at this
    exact List.length_eq_one_iff.1 this
  obtain ⟨u, hu⟩ := e xs[i]
  have := Y.stS k hk ha (t := 0) x' (v := v) hx (by omega) (by rw [hv, hu]; rfl)
  simpa using this
theorem Sy.appS (Y : Sy h0 M h cs) (k : Nat) (hk : cs[k]? = some (Ck.sl E ty a n c xs)) {sA : Option Addr} {sC m : Nat} {vs : List Value} (ys : List α) (ow : Own h' ty E.sz sA (n + m) sC (E.l xs ++ vs)) (f : Fr (blkOf a) h h')
    (g : (sA = a ∧ sC = c) ∨ ∃ g, sA = some ⟨g, 0, none⟩ ∧ h.size ≤ g) (hv : E.l ys = vs) (hm : ys.length = m) : Sy h0 M h' (cs.set k (Ck.sl E ty sA (n + m) sC (xs ++ ys))) := by
  have hl := Y.lenS k hk
  refine Y.mut hk _ f.size (fun d hd hn => f.blk d hd hn) ⟨by rw [En.l_append, hv]; exact ow, by simp [hm, hl]⟩ (fun d hd => ?_) (fun d hd => by simp [Ck.sl] at hd)
  rcases g with ⟨rfl, _⟩ | ⟨g, rfl, hg⟩
  · exact .inl hd
  · simp [Ck.sl, blkOf] at hd; exact .inr (by omega)
theorem slice0 (a : Option Addr) (c sz : Nat) : (if c = 0 then a else Option.map (fun addr => Addr.add addr (0 * sz)) a) = a := by
  split
  · rfl
  · cases a with
    | none => rfl
    | some a => simp [Addr.add]
theorem Sy.atV (Y : Sy h0 M h cs) (k : Nat) (hk : cs[k]? = some (Ck.vw E a n c xs)) {i : Int} (hi : 0 ≤ i) (hn : i < (n : Int)) :
    ∃ b o, a = some ⟨b, o, none⟩ ∧ b ∈ (Ck.vw E a n c xs).rd ∧ ∃ x, xs[i.toNat]? = some x := by
  obtain ⟨r, ln, _⟩ := Y.ok hk
  obtain ⟨b, o, e, _⟩ := r.at (by omega)
  exact ⟨b, o, e, rd_mem e (by omega), _, List.getElem?_eq_getElem (by omega)⟩
theorem Sy.cellV (Y : Sy h0 M h cs) (k : Nat) (hk : cs[k]? = some (Ck.vw E a n c xs)) (ha : a = some ⟨b, o, none⟩) {i t : Nat} {x : α} {v : Value} (hx : xs[i]? = some x) (hv : (E.enc x)[t]? = some v) :
    hcell h b (o + i * E.sz + t) = some v := by
  obtain ⟨r, ln, _⟩ := Y.ok hk
  rcases r.2 with ⟨h1, h2⟩ | ⟨b', o', e, hc⟩
  · subst h2; have := (List.getElem?_eq_some_iff.1 hx).1; omega
  · rw [e] at ha; simp at ha; obtain ⟨rfl, rfl⟩ := ha
    rw [Nat.add_assoc]
    exact hc _ _ (En.l_get hx hv)
theorem Sy.lenV (Y : Sy h0 M h cs) (k : Nat) (hk : cs[k]? = some (Ck.vw E a n c xs)) : n = xs.length := (Y.ok hk).2.1.symm
theorem Sy.readsV (Y : Sy h0 M h cs) (k : Nat) (hk : cs[k]? = some (Ck.vw E a n c xs)) : Reads h E.sz a n (E.l xs) := (Y.ok hk).1
theorem Sy.capV (Y : Sy h0 M h cs) (k : Nat) (hk : cs[k]? = some (Ck.vw E a n c xs)) : n ≤ c ∧ (a = none → c = 0) := (Y.ok hk).2.2
theorem To.slvw : To (Ck.sl E ty a n c xs) (Ck.vw E a n c xs) :=
  ⟨fun h o => ⟨o.1.reads, o.2, o.1.cap.1, o.1.nc⟩, by simp [Ck.vw], fun b hb => .inl (rdOf_sub hb)⟩
theorem To.no {d : Ck} : To d Ck.no := ⟨fun _ _ => trivial, by simp [Ck.no], by simp [Ck.no]⟩
theorem Sy.junk (Y : Sy h0 M h cs) (x : Obj) : Sy h0 M (h.push x) (cs ++ [Ck.junk h.size]) :=
  Y.add (Fr.push h x) _ (by simp [Ck.junk]) (by simp [Ck.junk]) (by simp [Ck.junk])
theorem Sy.stJ (Y : Sy h0 M h cs) (k : Nat) (hk : cs[k]? = some (Ck.junk b)) (o : Nat) (v : Value) : Sy h0 M (hset h b o v) cs := by
  have := Y.mut (h' := hset h b o v) hk (Ck.junk b) (by simp) (fun d _ hd => hset_ne (by rintro rfl; exact hd (by simp [Ck.junk]))) (by have := Y.ok hk; simpa [Ck.junk] using this) (fun d hd => .inl hd) (fun d hd => by simp [Ck.junk] at hd)
  have e : cs.set k (Ck.junk b) = cs := by
    apply List.ext_getElem?
    intro j
    rw [List.getElem?_set]
    split
    · rename_i e; subst e; rw [hk]; simp; exact (List.getElem?_eq_some_iff.1 hk).1
    · rfl
  rwa [e] at this
theorem Sy.newO (Y : Sy h0 M h cs) (vs : List Value) : Sy h0 M (h.push (.cells vs.toArray ty)) (cs ++ [Ck.ob h.size ty vs]) :=
  Y.add (Fr.push h _) _ blk_push_new (by simp [Ck.ob]) (by simp [Ck.ob])
theorem Sy.cellO (Y : Sy h0 M h cs) (k : Nat) (hk : cs[k]? = some (Ck.ob b ty cells)) (j : Nat) {v : Value} (hv : cells[j]? = some v) : hcell h b j = some v := by
  rw [hcell_of (Y.ok hk)]; simpa using hv
theorem Sy.freeO (Y : Sy h0 M h cs) (k : Nat) (hk : cs[k]? = some (Ck.ob b ty cells)) (j : Nat) : hfree h b j = true := hfree_of (Y.ok hk) j
theorem Sy.stO (Y : Sy h0 M h cs) (k : Nat) (hk : cs[k]? = some (Ck.ob b ty cells)) (j : Nat) (v : Value) : Sy h0 M (hset h b j v) (cs.set k (Ck.ob b ty (cells.set j v))) :=
  Y.mut hk _ (by simp) (fun d _ hd => hset_ne (by rintro rfl; exact hd (by simp [Ck.ob]))) (by
    have := hset_of (o := j) (v := v) (Y.ok hk)
    simpa [Ck.ob] using this) (fun d hd => .inl hd) (fun d hd => by simp [Ck.ob] at hd)
theorem Sy.cellW (Y : Sy h0 M h cs) (k : Nat) (hk : cs[k]? = some (Ck.vob b o cells)) (j : Nat) {v : Value} (hv : cells[j]? = some v) : hcell h b (o + j) = some v := (Y.ok hk).2 j v hv
theorem To.obvob : To (Ck.ob b ty cells) (Ck.vob b 0 cells) :=
  ⟨fun h hb => ⟨blk_lt hb, fun j v hv => by rw [hcell_of hb, Nat.zero_add]; simpa using hv⟩, by simp [Ck.vob], fun d hd => .inl hd⟩
theorem Sy.ne (Y : Sy h0 M h cs) (i j : Nat) (hij : i ≠ j) {c d : Ck} (hi : cs[i]? = some c) (hj : cs[j]? = some d) {x y : Nat} (hx : x ∈ c.own) (hy : y ∈ d.own) : x ≠ y := by
  rintro rfl
  exact (Y.hp.ap i j c d hij hi hj x hx).1 hy
theorem Sy.neJ (Y : Sy h0 M h cs) (i j : Nat) (hij : Nat.beq i j = false) {c : Ck} {y : Nat} (hi : cs[i]? = some c) (hj : cs[j]? = some (Ck.junk y)) {x : Nat} (hx : x ∈ c.own) : x ≠ y :=
  Y.ne i j (fun e => by subst e; simp at hij) hi hj hx (by simp [Ck.junk])
theorem Sy.nJ (Y : Sy h0 M h cs) (i j : Nat) (hij : Nat.beq i j = false) {c : Ck} {y : Nat} (hi : cs[i]? = some c) (hj : cs[j]? = some (Ck.junk y)) : y ∉ c.own :=
  fun hx => Y.neJ i j hij hi hj hx rfl
theorem Sy.nO (Y : Sy h0 M h cs) (j : Nat) (l : List Nat) (hc : chkI cs.length (j :: l) = true) {y : Nat} (hj : cs[j]? = some (Ck.junk y)) : y ∉ owns (pk cs l) := by
  intro hy
  simp only [owns, List.mem_flatMap] at hy
  obtain ⟨d, h1, h2⟩ := hy
  obtain ⟨p, hp, rfl⟩ := List.getElem_of_mem h1
  have hc' : chkI cs.length l = true := by simp only [chkI, Bool.and_eq_true] at hc; exact hc.2
  obtain ⟨q, hq, hq2⟩ := pk_get hc' (List.getElem?_eq_getElem hp)
  have hne : j ≠ q := fun e => by
    subst e
    have h1 : (j :: l)[0]? = some j := rfl
    have h2 : (j :: l)[p + 1]? = some j := by simpa using hq
    have := chkI_nd hc h1 h2
    omega
  exact (Y.hp.ap j q _ _ hne hj hq2 y (by simp [Ck.junk])).1 h2
end

end Go.X
