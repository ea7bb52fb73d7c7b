/- Package variables that hold tables, as the program's text lays them: what is read of them. Conditions: none. -/
import Derived.Test.YtfjflbapojgbhaaGreatDoorYMore
import Derived.Test.YtfjflbapojgbhaaGreatDoorYRg
import GoSem.PinnedTables
namespace Go.X
set_option maxRecDepth 100000

/-- Where the three slices of tables stand: block, offset, capacity. -/
structure GL where
  pb : Nat
  po : Nat
  pc : Nat
  fb : Nat
  fo : Nat
  fc : Nat
  lb : Nat
  lo : Nat
  lc : Nat
def tU : List Int := [1, 10, 100, 1000, 10000, 100000, 1000000, 10000000, 100000000, 1000000000, 10000000000, 100000000000, 1000000000000, 10000000000000, 100000000000000, 1000000000000000, 10000000000000000, 100000000000000000, 1000000000000000000, 10000000000000000000]
def tP : List Int := [1, 3, 6, 9, 13, 16, 19, 23, 26]
def tF : List Nat := [4607182418800017408, 4621819117588971520, 4636737291354636288, 4652007308841189376, 4666723172467343360, 4681608360884174848, 4696837146684686336, 4711630319722168320, 4726483295884279808, 4741671816366391296, 4756540486875873280, 4771362005757984768, 4786511204640096256, 4801453603149578240, 4816244402031689728, 4831355200913801216, 4846369599423283200, 4861130398305394688, 4876203697187506176, 4891288408196988160, 4906019910204099648, 4921056587992461136, 4936209963552724370]
def tT : List Int := Go.Pinned.pow10Rows.flatMap fun x => [(x.1 : Int), (x.2 : Int)]
def tL : List (Int × ByteArray) := Go.Pinned.cheatRows.map fun x => ((x.1 : Int), ⟨x.2.toArray⟩)
structure Gl (gl : GL) (h : Heap) : Prop where
  opt : hcell h 3 0 = some (.bool true)
  i0 : hcell h 5 0 = some (.int .u64 52)
  i1 : hcell h 5 1 = some (.int .u64 11)
  i2 : hcell h 5 2 = some (.int .i64 (-1023))
  u : ∀ (i : Nat) (v : Int), tU[i]? = some v → hcell h 6 (0 + i) = some (.int .u64 v)
  t : ∀ (i : Nat) (v : Int), tT[i]? = some v → hcell h 11 (0 + i) = some (.int .u64 v)
  p0 : hcell h 9 0 = some (.slice (some ⟨gl.pb, gl.po, none⟩) 9 gl.pc)
  p : ∀ (i : Nat) (v : Int), tP[i]? = some v → hcell h gl.pb (gl.po + i) = some (.int .i64 v)
  f0 : hcell h 10 0 = some (.slice (some ⟨gl.fb, gl.fo, none⟩) 23 gl.fc)
  f : ∀ (i : Nat) (v : Nat), tF[i]? = some v → hcell h gl.fb (gl.fo + i) = some (.float .f64 v)
  l0 : hcell h 12 0 = some (.slice (some ⟨gl.lb, gl.lo, none⟩) 61 gl.lc)
  l : ∀ (i : Nat) (v : Int × ByteArray), tL[i]? = some v → hcell h gl.lb (gl.lo + i * 2) = some (.int .i64 v.1) ∧ hcell h gl.lb (gl.lo + i * 2 + 1) = some (.string v.2)
  e1 : ∃ t v, hcell h 1 0 = some (.iface t v)
  e2 : ∃ t v, hcell h 2 0 = some (.iface t v)
def glB (gl : GL) : List Nat := [1, 2, 3, 5, 6, 9, 10, 11, 12, gl.pb, gl.fb, gl.lb]
theorem Gl.congr {gl : GL} {h h' : Heap} (g : Gl gl h) (hb : ∀ b ∈ glB gl, h'[b]? = h[b]?) : Gl gl h' := by
  have c : ∀ {b o : Nat} {v : Value}, b ∈ glB gl → hcell h b o = some v → hcell h' b o = some v := fun m e => (hcell_congr (hb _ m) _).trans e
  refine ⟨c (by simp [glB]) g.opt, c (by simp [glB]) g.i0, c (by simp [glB]) g.i1, c (by simp [glB]) g.i2, fun i v e => c (by simp [glB]) (g.u i v e), fun i v e => c (by simp [glB]) (g.t i v e), c (by simp [glB]) g.p0,
    fun i v e => c (by simp [glB]) (g.p i v e), c (by simp [glB]) g.f0, fun i v e => c (by simp [glB]) (g.f i v e), c (by simp [glB]) g.l0, fun i v e => ⟨c (by simp [glB]) (g.l i v e).1, c (by simp [glB]) (g.l i v e).2⟩, ?_, ?_⟩
  · obtain ⟨t, v, e⟩ := g.e1; exact ⟨t, v, c (by simp [glB]) e⟩
  · obtain ⟨t, v, e⟩ := g.e2; exact ⟨t, v, c (by simp [glB]) e⟩
theorem tT0 : ∃ v, tT[0]? = some v := ⟨_, rfl⟩
theorem Gl.lt {gl : GL} {h : Heap} (g : Gl gl h) : ∀ b ∈ glB gl, b < h.size := by
  intro b hb
  simp only [glB, List.mem_cons, List.not_mem_nil, or_false] at hb
  obtain ⟨v0, e0⟩ := tT0
  obtain ⟨_, _, a1⟩ := g.e1
  obtain ⟨_, _, a2⟩ := g.e2
  rcases hb with rfl | rfl | rfl | rfl | rfl | rfl | rfl | rfl | rfl | rfl | rfl | rfl
  · exact hcell_lt a1
  · exact hcell_lt a2
  · exact hcell_lt g.opt
  · exact hcell_lt g.i0
  · exact hcell_lt (g.u 0 _ rfl)
  · exact hcell_lt g.p0
  · exact hcell_lt g.f0
  · exact hcell_lt (g.t 0 _ e0)
  · exact hcell_lt g.l0
  · exact hcell_lt (g.p 0 _ rfl)
  · exact hcell_lt (g.f 0 _ rfl)
  · exact hcell_lt (g.l 0 _ rfl).1
/-- The tables, looked at. -/
def Ck.glob (gl : GL) : Ck := ⟨[], glB gl, Gl gl, fun _ g => ⟨fun b hb => by simp at hb, g.lt⟩, fun _ _ _ hb g => g.congr hb⟩
section
variable {h0 h : Heap} {M : List Nat} {cs : List Ck} {gl : GL}
theorem Sy.glo (Y : Sy h0 M h cs) (k : Nat) (hk : cs[k]? = some (Ck.glob gl)) : Gl gl h := Y.ok hk
end

/-- An error of the library's own kind: none, or its number. -/
def errV (t : Nat) : Option Int → Value
  | none => .nilIface
  | some c => .iface t (.int .i64 c)
theorem eK8_l (xs : List Int) : (eK .u8).l xs = List.map (Value.int IntKind.u8) xs := by
  induction xs with
  | nil => rfl
  | cons x xs ih => simp only [En.l, ih]; rfl
theorem reads8 {h : Heap} {a : Option Addr} {n : Nat} {xs : List Int} (r : Reads h (eK .u8).sz a n ((eK .u8).l xs)) : Reads h 1 a n (List.map (Value.int IntKind.u8) xs) := by
  rw [← eK8_l]; exact r
/-- A text's bytes. -/
def bytesL (w : ByteArray) : List Int := w.data.toList.map fun b => ((b.toNat : Nat) : Int)
theorem bytesL_l (w : ByteArray) : (eK .u8).l (bytesL w) = Lib.strCells w := by
  rw [eK8_l, bytesL, Lib.strCells, List.map_map]; rfl
theorem bytesL_len (w : ByteArray) : (bytesL w).length = w.size := by
  rw [bytesL, List.length_map, Array.length_toList]; rfl
/-- A block that is an array, as a slice over the whole of it. -/
theorem To.obsl {α : Type} {E : En α} {b ty n : Nat} {cells : List Value} (xs : List α) (hn : xs.length = n) (hm : n ≤ maxLen) (hc : E.l xs = cells) :
    To (Ck.ob b ty cells) (Ck.sl E ty (some ⟨b, 0, none⟩) n n xs) := by
  have hl : cells.length = n * E.sz := by rw [← hc, En.l_len, hn]
  refine ⟨fun h hb => ⟨⟨by rw [En.l_len, hn], .inr ⟨b, cells.toArray, rfl, hb, Nat.le_refl _, hm, by simp [hl], ?_⟩⟩, hn⟩, fun d hd => ?_, fun d hd => ?_⟩
  · rw [hc, ← hl]; simp
  · simpa [Ck.sl, blkOf, Ck.ob] using hd
  · simp [Ck.sl] at hd
theorem lenTD {α : Type} {xs : List α} {hi : Nat} (lo : Nat) (h : hi ≤ xs.length) : ((xs.take hi).drop lo).length = hi - lo := by simp [Nat.min_eq_left h]
end Go.X
