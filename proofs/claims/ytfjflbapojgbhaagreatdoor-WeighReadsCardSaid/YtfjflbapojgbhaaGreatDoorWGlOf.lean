/- What the card lists of the package's tables, as facts of the heap; and a world in which they lie so. Conditions: none. -/
import Derived.Test.YtfjflbapojgbhaaGreatDoorRows
import Derived.Test.YtfjflbapojgbhaaGreatDoorYGl
import Derived.WalkKit
import Derived.ProofKit
import Derived.OpenShut
import Derived.Lib.LaidU8
import Derived.MakeChecks
import Derived.Lay
namespace Go.X
open Go.ChangeShapes Go.WideShapes Go.ChangeAt Go.RowKit

theorem cell_hc {w : World} {b o : Nat} {s : Option Nat} {v : Value} (h : w.cell? ⟨b, o, s⟩ = some v) : hcell w.heap b o = some v := by
  obtain rfl := Go.Proofs.cell_spot h
  rw [cell_hcell] at h; exact h
section
variable {H : Type} {enc : TypeId × Value → H} {P : Program} {w : World} {base : Nat} {spare : Nat → Bool}

/-- A slice that reads as these, in memory. -/
theorem slice_in {α : Type} (E : En α) (D : α → DataW H) {t e : TypeId} {fuel : Nat} {cs : List Value} {p : List MemPlace} {l : List α} (ht : P.underlying t = some (.slice e)) (hc : P.cellsOf e = E.sz)
    (hel : ∀ (n : Nat) (cs : List Value) (x : α) (p : List MemPlace), DataW.trod enc P w base spare false n e cs = some (D x, p) → cs = E.enc x)
    (hl : 0 < l.length) (h : DataW.trod enc P w base spare false fuel t cs = some (.slice (l.map D) [], p)) :
    ∃ b o c, cs = [.slice (some ⟨b, o, none⟩) l.length c] ∧ ∀ (i : Nat) (x : α), l[i]? = some x → ∀ (j : Nat) (v : Value), (E.enc x)[j]? = some v → hcell w.heap b (o + i * E.sz + j) = some v := by
  rcases DataW.trod_slice ht h with ⟨_, hx⟩ | ⟨a, len, cap, el, rs, m, rfl, hcs, hx, _, hlc, _, hel', helem, _, _⟩
  · cases hx
  have e0 := congrArg Prod.fst hx
  simp only [DataW.slice.injEq] at e0
  obtain ⟨eE, _⟩ := e0
  have hlen : len = l.length := by
    have := congrArg List.length eE
    simp at this; omega
  have hcell : ∀ (i : Nat) (x : α), l[i]? = some x → ∀ (j : Nat) (v : Value), (E.enc x)[j]? = some v → w.cell? ((a.add (i * E.sz)).add j) = some v := by
    intro i x hi j v hv
    have hil : i < l.length := (List.getElem?_eq_some_iff.1 hi).1
    have h1 := helem i (by omega)
    rw [hc] at h1
    obtain ⟨b, hb⟩ : ∃ b, el[i]? = some b := ⟨el[i]'(by omega), List.getElem?_eq_getElem (by omega)⟩
    rw [hb] at h1
    obtain ⟨ce, hce, hte⟩ := Option.bind_eq_some_iff.1 h1
    have hb1 : b.1 = D x := by
      have := congrArg (·[i]?) eE
      simp [hb, hi] at this
      exact this.symm
    obtain ⟨b1, b2⟩ := b
    simp only at hb1; subst hb1
    have := hel _ _ _ _ hte
    subst this
    have hj : j < E.sz := by
      have := (List.getElem?_eq_some_iff.1 hv).1
      rwa [E.len] at this
    rw [← hv]
    exact (World.cells?_some hce).2.2 j hj
  obtain ⟨R, o, sR⟩ := a
  have hs : sR = none := by
    obtain ⟨x, hx0⟩ : ∃ x, l[0]? = some x := ⟨l[0]'hl, List.getElem?_eq_getElem hl⟩
    have hp : 0 < (E.enc x).length := by rw [E.len]; exact E.pos
    have h00 := hcell 0 x hx0 0 _ (List.getElem?_eq_getElem hp)
    have : (Addr.add (Addr.add ⟨R, o, sR⟩ (0 * E.sz)) 0) = ⟨R, o, sR⟩ := by simp [Addr.add]
    rw [this] at h00
    exact Go.Proofs.cell_spot h00
  subst hs
  refine ⟨R, o, cap, by rw [hcs, hlen], fun i x hi j v hv => ?_⟩
  have := hcell i x hi j v hv
  rw [add_none, add_none] at this
  exact cell_hc this
/-- An array that reads as these, in memory. -/
theorem array_in {α : Type} (E : En α) (D : α → DataW H) {t e : TypeId} {n fuel : Nat} {cs : List Value} {p : List MemPlace} {l : List α} (ht : P.underlying t = some (.array n e)) (hc : P.cellsOf e = E.sz)
    (hel : ∀ (n : Nat) (cs : List Value) (x : α) (p : List MemPlace), DataW.trod enc P w base spare false n e cs = some (D x, p) → cs = E.enc x)
    (h : DataW.trod enc P w base spare false fuel t cs = some (.agg (l.map D), p)) :
    ∀ (i : Nat) (x : α), l[i]? = some x → ∀ (j : Nat) (v : Value), (E.enc x)[j]? = some v → cs[i * E.sz + j]? = some v := by
  intro i x hi j v hv
  obtain ⟨xs, m, rfl, hx, hl, hxl, hall⟩ := DataW.trod_array ht h
  have e0 := congrArg Prod.fst hx
  simp only [DataW.agg.injEq] at e0
  have hn : n = l.length := by
    have := congrArg List.length e0
    simp at this; omega
  have hil : i < l.length := (List.getElem?_eq_some_iff.1 hi).1
  have h1 := hall i (by omega)
  obtain ⟨b, hb⟩ : ∃ b, xs[i]? = some b := ⟨xs[i]'(by omega), List.getElem?_eq_getElem (by omega)⟩
  rw [hb, hc] at h1
  have hb1 : b.1 = D x := by
    have := congrArg (·[i]?) e0
    simp [hb, hi] at this
    exact this.symm
  obtain ⟨b1, b2⟩ := b
  simp only at hb1; subst hb1
  have := hel _ _ _ _ h1
  have hj : j < E.sz := by
    have := (List.getElem?_eq_some_iff.1 hv).1
    rwa [E.len] at this
  rw [← this, List.getElem?_take, if_pos hj, List.getElem?_drop] at hv
  exact hv
theorem dat_int {k : IntKind} {e : TypeId} (he : P.underlying e = some (.int k)) (n : Nat) (cs : List Value) (x : Int) (p : List MemPlace) (h : DataW.trod enc P w base spare false n e cs = some (.lit (.int k x), p)) : cs = (eK k).enc x := by
  obtain ⟨m, rfl, hm, _⟩ := DataW.trod_int he h
  cases hm; rfl
theorem dat_float {k : FloatKind} {e : TypeId} (he : P.underlying e = some (.float k)) (n : Nat) (cs : List Value) (x : Nat) (p : List MemPlace) (h : DataW.trod enc P w base spare false n e cs = some (.lit (.float k x), p)) : cs = [.float k x] := by
  cases n with
  | zero => simp [DataW.trod] at h
  | succ m =>
    unfold DataW.trod at h
    rw [he] at h
    split at h <;> simp_all
theorem dat_str {e : TypeId} (he : P.underlying e = some .string) (n : Nat) (cs : List Value) (x : List UInt8) (p : List MemPlace) (h : DataW.trod enc P w base spare false n e cs = some (.lit (.string x), p)) : cs = [.string ⟨x.toArray⟩] := by
  obtain ⟨m, rfl, hm, _⟩ := DataW.trod_string he h
  cases hm; rfl
theorem dat_bool {e : TypeId} (he : P.underlying e = some .bool) (n : Nat) (cs : List Value) (x : Bool) (p : List MemPlace) (h : DataW.trod enc P w base spare false n e cs = some (.lit (.bool x), p)) : cs = [.bool x] := by
  obtain ⟨m, rfl, hm⟩ := DataW.trod_bool he h
  cases hm; rfl
/-- A struct of one-cell fields that reads as these: each cell. -/
theorem struct_in {t : TypeId} {fs : Array Field} {ds : List (DataW H)} {n : Nat} {cs : List Value} {p : List MemPlace} (ht : P.underlying t = some (.struct fs)) (h : DataW.trod enc P w base spare false n t cs = some (.agg ds, p)) :
    cs.length = P.cellsOf t ∧ ∀ (i : Nat) (f : Field), fs[i]? = some f → f.offset = i → P.cellsOf f.type = 1 → ∃ m d q, ds[i]? = some d ∧ DataW.trod enc P w base spare false m f.type ((cs.drop i).take 1) = some (d, q) := by
  obtain ⟨xs, m, rfl, hx, hl, hxl, hall⟩ := DataW.trod_struct ht h
  have e0 := congrArg Prod.fst hx
  simp only [DataW.agg.injEq] at e0
  refine ⟨hl, fun i f hf ho hc => ?_⟩
  have h1 := hall i f hf
  rw [ho, hc] at h1
  have hi : i < xs.length := by rw [hxl]; exact (Array.getElem?_eq_some_iff.1 hf).1
  rw [List.getElem?_eq_getElem hi] at h1
  refine ⟨m, xs[i].1, xs[i].2, ?_, h1⟩
  rw [e0, List.getElem?_map, List.getElem?_eq_getElem hi]; rfl
end
theorem at_one {l : List Value} {i : Nat} {v : Value} (h : (l.drop i).take 1 = [v]) : l[i]? = some v := by
  have := congrArg (·[0]?) h
  simpa using this
theorem two_of {l : List Value} {a b : Value} (hl : l.length = 2) (h0 : l[0]? = some a) (h1 : l[1]? = some b) : l = [a, b] := by
  match l, hl with
  | [x, y], _ => simp at h0 h1; rw [h0, h1]
end Go.X

namespace Go.Proofs.YtfjflbapojgbhaaGreatDoor.N
open Go.X Go.Lib
set_option maxRecDepth 100000

def dF (x : Nat) : DataW Unit := .lit (.float .f64 x)
def dU (x : Int) : DataW Unit := .lit (.int .u64 x)
def dI (x : Int) : DataW Unit := .lit (.int .i64 x)
def dR (x : Nat × Nat) : DataW Unit := .agg [.lit (.int .u64 x.1), .lit (.int .u64 x.2)]
def dC (x : Nat × List UInt8) : DataW Unit := .agg [.lit (.int .i64 x.1), .lit (.string x.2)]
def eR2 : En (Nat × Nat) := ⟨2, fun x => [.int .u64 x.1, .int .u64 x.2], by decide, fun _ => rfl, fun x v h => by simp at h; rcases h with rfl | rfl <;> rfl⟩
def eC2 : En (Nat × List UInt8) := ⟨2, fun x => [.int .i64 x.1, .string ⟨x.2.toArray⟩], by decide, fun _ => rfl, fun x v h => by simp at h; rcases h with rfl | rfl <;> rfl⟩
theorem isU : (Rows.laid_internal_strconv_uint64pow10 : DataW Unit) = .agg (tU.map dU) := by kernel_rfl
theorem isP : (Rows.laid_internal_strconv_powtab : DataW Unit) = .slice (tP.map dI) [] := by kernel_rfl
theorem isF : (Rows.laid_internal_strconv_float64pow10 : DataW Unit) = .slice (tF.map dF) [] := by kernel_rfl
theorem isT : Rows.laid_internal_strconv_pow10Tab = .agg (Go.Pinned.pow10Rows.map dR) := rfl
theorem isL : Rows.laid_internal_strconv_leftcheats = .slice (Go.Pinned.cheatRows.map dC) [] := rfl
theorem lenL : 0 < Go.Pinned.cheatRows.length := by decide +kernel
theorem pair2 : ∀ (l : List (Nat × Nat)) (i : Nat) (v : Int), (l.flatMap fun x => [(x.1 : Int), (x.2 : Int)])[i]? = some v → ∃ x, l[i / 2]? = some x ∧ (eR2.enc x)[i % 2]? = some (.int .u64 v)
  | [], i, v, h => by simp at h
  | x :: l, 0, v, h => by simp at h; subst h; exact ⟨x, rfl, rfl⟩
  | x :: l, 1, v, h => by simp at h; subst h; exact ⟨x, rfl, rfl⟩
  | x :: l, i + 2, v, h => by
    simp only [List.flatMap_cons, List.cons_append, List.nil_append, List.getElem?_cons_succ] at h
    obtain ⟨y, h1, h2⟩ := pair2 l i v h
    refine ⟨y, ?_, ?_⟩
    · rw [show (i + 2) / 2 = i / 2 + 1 by omega, List.getElem?_cons_succ]; exact h1
    · rw [show (i + 2) % 2 = i % 2 by omega]; exact h2
section
variable {W : World}
theorem read_at {n : String} {g : Nat} {t : TypeId} {d : DataW Unit} (hn : Tryz.prog.globalNamed n = some g) (ht : (Tryz.prog.globals[g]?).map (·.type) = some t) (h : VarReads Tryz.prog W n d) :
    ∃ cs fuel p, DataW.trod (fun _ => ()) Tryz.prog W 0 (fun _ => true) false fuel t cs = some (d, p) ∧ ∀ (i : Nat) (v : Value), cs[i]? = some v → hcell W.heap g i = some v := by
  obtain ⟨g', t', cs, fuel, p, h1, h2, h3, h4⟩ := h
  obtain rfl := Option.some.inj (hn.symm.trans h1)
  obtain rfl := Option.some.inj (ht.symm.trans h2)
  refine ⟨cs.toList, fuel, p, h4, fun i v hi => cell_hc (s := none) ?_⟩
  rw [World.var?_cell hn h3 i, ← Array.getElem?_toList]; exact hi
theorem glOf (h : laidMetH Tryz.prog Rows.weighOrderRow.laid W) : ∃ gl, Gl gl W.heap := by
  rw [MakeChecks.laidMetH_plain _ _ _ (by kernel_rfl)] at h
  have r : ∀ {n d}, (n, d) ∈ Rows.weighOrderRow.laid → VarReads Tryz.prog W n d := fun hm => laidMet.reads h hm
  obtain ⟨c3, f3, p3, t3, k3⟩ := read_at (g := 3) (t := 4) (by kernel_rfl) (by kernel_rfl) (r (n := "internal/strconv.optimize") (d := Rows.laid_internal_strconv_optimize) (by simp [Rows.weighOrderRow]))
  obtain ⟨c5, f5, p5, t5, k5⟩ := read_at (g := 5) (t := 115) (by kernel_rfl) (by kernel_rfl) (r (n := "internal/strconv.float64info") (d := Rows.laid_internal_strconv_float64info) (by simp [Rows.weighOrderRow]))
  obtain ⟨c6, f6, p6, t6, k6⟩ := read_at (g := 6) (t := 145) (by kernel_rfl) (by kernel_rfl) (r (n := "internal/strconv.uint64pow10") (d := Rows.laid_internal_strconv_uint64pow10) (by simp [Rows.weighOrderRow]))
  obtain ⟨c9, f9, p9, t9, k9⟩ := read_at (g := 9) (t := 152) (by kernel_rfl) (by kernel_rfl) (r (n := "internal/strconv.powtab") (d := Rows.laid_internal_strconv_powtab) (by simp [Rows.weighOrderRow]))
  obtain ⟨c10, f10, p10, t10, k10⟩ := read_at (g := 10) (t := 40) (by kernel_rfl) (by kernel_rfl) (r (n := "internal/strconv.float64pow10") (d := Rows.laid_internal_strconv_float64pow10) (by simp [Rows.weighOrderRow]))
  obtain ⟨c11, f11, p11, t11, k11⟩ := read_at (g := 11) (t := 159) (by kernel_rfl) (by kernel_rfl) (r (n := "internal/strconv.pow10Tab") (d := Rows.laid_internal_strconv_pow10Tab) (by simp [Rows.weighOrderRow]))
  obtain ⟨c12, f12, p12, t12, k12⟩ := read_at (g := 12) (t := 165) (by kernel_rfl) (by kernel_rfl) (r (n := "internal/strconv.leftcheats") (d := Rows.laid_internal_strconv_leftcheats) (by simp [Rows.weighOrderRow]))
  obtain ⟨c1, f1, p1, t1, k1⟩ := read_at (g := 1) (t := 49) (by kernel_rfl) (by kernel_rfl) (r (n := "strconv.ErrSyntax") (d := Rows.laid_strconv_ErrSyntax) (by simp [Rows.weighOrderRow]))
  obtain ⟨c2, f2, p2, t2, k2⟩ := read_at (g := 2) (t := 49) (by kernel_rfl) (by kernel_rfl) (r (n := "strconv.ErrRange") (d := Rows.laid_strconv_ErrRange) (by simp [Rows.weighOrderRow]))
  clear h r
  rw [isU] at t6
  rw [isP] at t9
  rw [isF] at t10
  rw [isT] at t11
  rw [isL] at t12
  have u6 := array_in (eK .u64) dU Tryz.underlying145 (by kernel_rfl) (dat_int (by kernel_rfl)) t6
  obtain ⟨pb, po, pc, rfl, u9⟩ := slice_in (eK .i64) dI Tryz.underlying152 (by kernel_rfl) (dat_int (by kernel_rfl)) (by decide) t9
  obtain ⟨fb, fo, fc, rfl, u10⟩ := slice_in (⟨1, fun x => [.float .f64 x], by decide, fun _ => rfl, fun x v h => by simp at h; subst h; rfl⟩ : En Nat) dF Tryz.underlying40 (by kernel_rfl) (dat_float (by kernel_rfl)) (by decide) t10
  have u11 := array_in eR2 dR Tryz.underlying159 (by kernel_rfl) (fun n cs x p q => by
    obtain ⟨hl, ha⟩ := struct_in Tryz.underlying158 q
    obtain ⟨m0, d0, q0, e0, h0⟩ := ha 0 _ rfl rfl (by kernel_rfl)
    obtain ⟨m1, d1, q1, e1, h1⟩ := ha 1 _ rfl rfl (by kernel_rfl)
    cases e0; cases e1
    exact two_of hl (at_one (dat_int Tryz.underlying33 _ _ _ _ h0)) (at_one (dat_int Tryz.underlying33 _ _ _ _ h1))) t11
  obtain ⟨lb, lo, lc, rfl, u12⟩ := slice_in eC2 dC Tryz.underlying165 (by kernel_rfl) (fun n cs x p q => by
    obtain ⟨hl, ha⟩ := struct_in Tryz.underlying164 q
    obtain ⟨m0, d0, q0, e0, h0⟩ := ha 0 _ rfl rfl (by kernel_rfl)
    obtain ⟨m1, d1, q1, e1, h1⟩ := ha 1 _ rfl rfl (by kernel_rfl)
    cases e0; cases e1
    exact two_of hl (at_one (dat_int Tryz.underlying3 _ _ _ _ h0)) (at_one (dat_str Tryz.underlying9 _ _ _ _ h1))) lenL t12
  obtain ⟨_, ha⟩ := struct_in Tryz.underlying115 t5
  have s5 : ∀ (i : Nat) (f : Field) (k : IntKind) (x : Int), #[{ name := "mantbits", type := 106, offset := 0, embedded := false, tag := "", pkgPath := "internal/strconv", byteOffset := 0 }, { name := "expbits", type := 106, offset := 1, embedded := false, tag := "", pkgPath := "internal/strconv", byteOffset := 8 }, { name := "bias", type := 3, offset := 2, embedded := false, tag := "", pkgPath := "internal/strconv", byteOffset := 16 }][i]? = some f → f.offset = i → Tryz.prog.cellsOf f.type = 1 →
      Tryz.prog.underlying f.type = some (.int k) → ([.lit (.int .u64 52), .lit (.int .u64 11), .lit (.int .i64 (-1023))] : List (DataW Unit))[i]? = some (.lit (.int k x)) → hcell W.heap 5 i = some (.int k x) := fun i f k x hf ho hc hu hx => by
    obtain ⟨m, d, q, e, h⟩ := ha i f hf ho hc
    obtain rfl := Option.some.inj (hx.symm.trans e)
    exact k5 i _ (at_one (dat_int hu _ _ _ _ h))
  have ifc : ∀ {g f p cs} {d : DataW Unit} {s : String}, DataW.trod (fun _ => ()) Tryz.prog W 0 (fun _ => true) false f 49 cs = some (.iface s d, p) → (∀ (i : Nat) (v : Value), cs[i]? = some v → hcell W.heap g i = some v) → ∃ t v, hcell W.heap g 0 = some (.iface t v) := by
    intro g f p cs d s h k
    cases f with
    | zero => simp [DataW.trod] at h
    | succ m =>
      unfold DataW.trod at h
      rw [Tryz.underlying49] at h
      split at h <;> simp_all
  refine ⟨⟨pb, po, pc, fb, fo, fc, lb, lo, lc⟩, ?_⟩
  exact {
    opt := k3 0 _ (by rw [dat_bool Tryz.underlying4 _ _ _ _ t3]; rfl)
    i0 := s5 0 _ _ _ rfl rfl (by kernel_rfl) Tryz.underlying106 rfl
    i1 := s5 1 _ _ _ rfl rfl (by kernel_rfl) Tryz.underlying106 rfl
    i2 := s5 2 _ _ _ rfl rfl (by kernel_rfl) Tryz.underlying3 rfl
    u := fun i v hv => by rw [Nat.zero_add]; exact k6 i _ (by have := u6 i v hv 0 _ rfl; rwa [show i * (eK IntKind.u64).sz + 0 = i from Nat.mul_one i] at this)
    t := fun i v hv => by
      rw [Nat.zero_add]
      obtain ⟨x, hx, hv2⟩ := pair2 _ _ _ hv
      have := u11 _ _ hx _ _ hv2
      rw [show i / 2 * eR2.sz + i % 2 = i from Nat.div_add_mod' i 2] at this
      exact k11 i _ this
    p0 := k9 0 _ rfl
    p := fun i v hv => by have := u9 i v hv 0 _ rfl; rwa [show po + i * (eK IntKind.i64).sz + 0 = po + i by show po + i * 1 + 0 = po + i; omega] at this
    f0 := k10 0 _ rfl
    f := fun i v hv => by have := u10 i v hv 0 _ rfl; rwa [show fo + i * 1 + 0 = fo + i by omega] at this
    l0 := k12 0 _ rfl
    l := fun i v hv => by
      obtain ⟨x, hx, rfl⟩ : ∃ x, Go.Pinned.cheatRows[i]? = some x ∧ v = ((x.1 : Int), (⟨x.2.toArray⟩ : ByteArray)) := by
        unfold tL at hv
        rw [List.getElem?_map] at hv
        obtain ⟨x, h1, h2⟩ := Option.map_eq_some_iff.1 hv
        exact ⟨x, h1, h2.symm⟩
      have a0 := u12 i x hx 0 _ rfl
      have a1 := u12 i x hx 1 _ rfl
      exact ⟨a0, a1⟩
    e1 := ifc t1 k1
    e2 := ifc t2 k2 }
/-- A world in which the listed tables lie. -/
theorem met (os : Os) (args : Array Value) : laidMetH Tryz.prog Rows.weighOrderRow.laid ((World.laidAll Tryz.prog os Rows.weighOrderRow.laid).forCall (fun _ _ => 0) ⟨#[], args, []⟩).memory := by
  rw [MakeChecks.laidMetH_plain _ _ _ (by kernel_rfl)]
  exact laidMet_laidAll _ (by kernel_rfl) (by kernel_rfl)
end
end Go.Proofs.YtfjflbapojgbhaaGreatDoor.N
