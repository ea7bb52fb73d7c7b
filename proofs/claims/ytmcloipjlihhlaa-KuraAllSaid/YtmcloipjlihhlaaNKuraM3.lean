/- Package kura: a way and the same way back. Conditions: none. -/
import Derived.Test.YtmcloipjlihhlaaNKuraG
import Derived.Test.YtmcloipjlihhlaaNKuraW
set_option linter.unusedSimpArgs false
set_option linter.unusedVariables false
namespace Go.Proofs.Ytmcloipjlihhlaa.N
open Go.X Go.Proofs.Ytmcloipjlihhlaa
set_option maxRecDepth 100000

theorem mate_ne (n : Nat) : mate n ≠ n := by unfold mate; split <;> omega
theorem edge_two {x y : Nat} (h : x / 2 = y / 2) : x = y ∨ x = mate y := by unfold mate; split <;> omega
section
variable {g : Int} {es : Es} {sel : List Int}
theorem back_nxt (m : MayN g es) (c : ChosenK (es.length : Int) sel) {x : Nat} (hx : InH es sel x) (hs : ¬ stopH es (outsF g es sel) x) : nxt es (outsF g es sel) (mate (nxt es (outsF g es sel) x)) = mate x := by
  obtain ⟨a1, a2, a3, a4⟩ := two_ways m c hx hs
  have e1 : toH es (mate (nxt es (outsF g es sel) x)) = toH es x := by rw [mate_to, a2]
  have hs' : ¬ stopH es (outsF g es sel) (mate (nxt es (outsF g es sel) x)) := by
    unfold stopH at hs ⊢; rw [e1]; exact hs
  obtain ⟨b1, b2, b3, b4⟩ := two_ways m c a1.mate hs'
  rw [e1, mate_mate] at b4
  have : ((nxt es (outsF g es sel) (mate (nxt es (outsF g es sel) x)) : Nat) : Int) = mate x := by
    rcases a4 with a4 | a4 <;> rcases b4 with b4 | b4 <;> rw [a4] at b4 <;> simp at b4 <;> omega
  omega
theorem itH_mate (m : MayN g es) (c : ChosenK (es.length : Int) sel) {h : Nat} (hh : InH es sel h) {n : Nat} (hn : ∀ i, i < n → ¬ stopH es (outsF g es sel) (itH es (outsF g es sel) h i)) :
    ∀ d a, a + d + 1 ≤ n → itH es (outsF g es sel) h (a + d + 1) ≠ mate (itH es (outsF g es sel) h a)
  | 0, a, ha => fun e => by
    have := (two_ways m c (itH_in m c hh a fun i hi => hn i (by omega)) (hn a (by omega))).2.2.1
    have e' : nxt es (outsF g es sel) (itH es (outsF g es sel) h a) = mate (itH es (outsF g es sel) h a) := e
    exact this (by rw [e'])
  | 1, a, ha => fun e => by
    have b := back_nxt m c (itH_in m c hh (a + 1) fun i hi => hn i (by omega)) (hn (a + 1) (by omega))
    have e' : nxt es (outsF g es sel) (itH es (outsF g es sel) h (a + 1)) = mate (itH es (outsF g es sel) h a) := e
    rw [e', mate_mate] at b
    exact mate_ne _ b.symm
  | d + 2, a, ha => fun e => by
    have b := back_nxt m c (itH_in m c hh (a + 1 + d + 1) fun i hi => hn i (by omega)) (hn (a + 1 + d + 1) (by omega))
    have e' : nxt es (outsF g es sel) (itH es (outsF g es sel) h (a + 1 + d + 1)) = mate (itH es (outsF g es sel) h a) := by
      rw [← e, show a + (d + 2) + 1 = (a + 1 + d + 1) + 1 by omega]; rfl
    rw [e', mate_mate] at b
    have b' : itH es (outsF g es sel) h (a + 1) = mate (itH es (outsF g es sel) h (a + 1 + d + 1)) := b
    exact itH_mate m c hh hn d (a + 1) (by omega) (by rw [b', mate_mate])
theorem way_edges (m : MayN g es) (c : ChosenK (es.length : Int) sel) {h : Nat} (hh : InH es sel h) (h0 : (outF es sel (fromH es h)).length ≠ 2) {n : Nat} (hn : ∀ i, i < n → ¬ stopH es (outsF g es sel) (itH es (outsF g es sel) h i)) : n + 1 ≤ es.length := by
  have nd : ((List.range (n + 1)).map fun i => itH es (outsF g es sel) h i / 2).Nodup := by
    refine List.pairwise_iff_getElem.2 fun a b ha hb hab => ?_
    simp only [List.getElem_map, List.getElem_range]
    simp only [List.length_map, List.length_range] at ha hb
    intro e
    rcases edge_two e with e | e
    · exact itH_ne m c hh h0 hn a b hab (by omega) e
    · refine itH_mate m c hh hn (b - a - 1) a (by omega) ?_
      rw [e, mate_mate, show a + (b - a - 1) + 1 = b by omega]
  have := nodup_bound es.length _ nd fun x hx => by
    obtain ⟨i, hi, rfl⟩ := List.mem_map.1 hx
    have := List.mem_range.1 hi
    have := (itH_in m c hh i fun a ha => hn a (by omega)).1
    show itH es (outsF g es sel) h i / 2 < es.length
    omega
  simpa using this
/-- The last half-edge of a way; where it ends; its way back's first one. -/
def lastF (p : List Int) : Nat := (p.getD (p.length - 1) 0).toNat
def endF (g : Int) (es : Es) (sel : List Int) (h : Nat) : Int := toH es (lastF (folF es (outsF g es sel) h))
def rho (g : Int) (es : Es) (sel : List Int) (h : Nat) : Nat := mate (lastF (folF es (outsF g es sel) h))
def lenF (g : Int) (es : Es) (sel : List Int) (h : Nat) : Nat := (folF es (outsF g es sel) h).length
theorem lastF_way (es : Es) (outs : List (List Int)) (h n : Nat) : lastF (wayL es outs h n) = itH es outs h n := by
  unfold lastF
  rw [wayL_len, show n + 1 - 1 = n by omega]
  unfold wayL
  rw [List.getD_eq_getElem?_getD, List.getElem?_map, List.getElem?_range (by omega)]
  simp
structure StartH (es : Es) (sel : List Int) (h : Nat) : Prop where
  i : InH es sel h
  d : (outF es sel (fromH es h)).length ≠ 2
theorem way_back (m : MayN g es) (c : ChosenK (es.length : Int) sel) {h : Nat} (s : StartH es sel h) :
    StartH es sel (rho g es sel h) ∧ fromH es (rho g es sel h) = endF g es sel h ∧ rho g es sel (rho g es sel h) = h ∧ endF g es sel (rho g es sel h) = fromH es h ∧ lenF g es sel (rho g es sel h) = lenF g es sel h ∧ lenF g es sel h ≤ es.length ∧ 0 < lenF g es sel h := by
  obtain ⟨J, h1, h2, h3, h4⟩ := folF_way m c s.i s.d
  have hk : rho g es sel h = mate (itH es (outsF g es sel) h J) := by unfold rho; rw [h4, lastF_way]
  have he : endF g es sel h = toH es (itH es (outsF g es sel) h J) := by unfold endF; rw [h4, lastF_way]
  have iJ := itH_in m c s.i J h2
  have hd : (outF es sel (toH es (itH es (outsF g es sel) h J))).length ≠ 2 := by
    unfold stopH at h3; rwa [outsAt m c iJ] at h3
  have hl := way_edges m c s.i s.d h2
  have it : ∀ i, i ≤ J → itH es (outsF g es sel) (rho g es sel h) i = mate (itH es (outsF g es sel) h (J - i)) := by
    intro i
    induction i with
    | zero => intro _; exact hk
    | succ i ih =>
      intro hi
      show nxt es (outsF g es sel) (itH es (outsF g es sel) (rho g es sel h) i) = _
      rw [ih (by omega), show J - i = (J - (i + 1)) + 1 by omega]
      exact back_nxt m c (itH_in m c s.i _ fun a ha => h2 a (by omega)) (h2 _ (by omega))
  have st : ∀ i, i < J → ¬ stopH es (outsF g es sel) (itH es (outsF g es sel) (rho g es sel h) i) := by
    intro i hi
    rw [it i (by omega)]
    unfold stopH
    rw [mate_to, show J - i = (J - (i + 1)) + 1 by omega]
    have := two_ways m c (itH_in m c s.i (J - (i + 1)) fun a ha => h2 a (by omega)) (h2 _ (by omega))
    have e : fromH es (itH es (outsF g es sel) h (J - (i + 1) + 1)) = toH es (itH es (outsF g es sel) h (J - (i + 1))) := this.2.1
    rw [e]
    exact h2 (J - (i + 1)) (by omega)
  have eJ : itH es (outsF g es sel) (rho g es sel h) J = mate h := by rw [it J (Nat.le_refl _), Nat.sub_self]; rfl
  have sJ : stopH es (outsF g es sel) (itH es (outsF g es sel) (rho g es sel h) J) := by
    rw [eJ]
    unfold stopH
    rw [outsAt m c s.i.mate, mate_to]; exact s.d
  have f2 : folF es (outsF g es sel) (rho g es sel h) = wayL es (outsF g es sel) (rho g es sel h) J := by
    unfold folF wayL
    rw [fol_eq es _ _ J _ h1 st sJ, List.map_map]; rfl
  refine ⟨⟨by rw [hk]; exact iJ.mate, by rw [hk, from_mate]; exact hd⟩, by rw [hk, from_mate, he], ?_, ?_, ?_, ?_, ?_⟩
  · unfold rho at *
    rw [f2, lastF_way, eJ, mate_mate]
  · unfold endF; rw [f2, lastF_way, eJ, mate_to]
  · unfold lenF; rw [f2, h4, wayL_len, wayL_len]
  · unfold lenF; rw [h4, wayL_len]; exact hl
  · unfold lenF; rw [h4, wayL_len]; omega
theorem ends_folF (m : MayN g es) (c : ChosenK (es.length : Int) sel) {h : Nat} (s : StartH es sel h) : endsP es (folF es (outsF g es sel) h) = (fromH es h, endF g es sel h) ∧ (folF es (outsF g es sel) h).getD 0 0 = (h : Int) := by
  obtain ⟨J, h1, h2, h3, h4⟩ := folF_way m c s.i s.d
  have e0 : (folF es (outsF g es sel) h).getD 0 0 = (h : Int) := by
    rw [h4]
    unfold wayL
    rw [List.getD_eq_getElem?_getD, List.getElem?_map, List.getElem?_range (by omega)]
    rfl
  refine ⟨?_, e0⟩
  unfold endsP
  rw [e0, Int.toNat_natCast]; rfl
end
end Go.Proofs.Ytmcloipjlihhlaa.N

/- Package kura: ways between branch nodes are counted. Conditions: none. -/
set_option linter.unusedSimpArgs false
set_option linter.unusedVariables false
namespace Go.Proofs.Ytmcloipjlihhlaa.N
open Go.X Go.Proofs.Ytmcloipjlihhlaa
set_option maxRecDepth 100000

def sm (f : Int → Nat) : List Int → Nat
  | [] => 0
  | x :: l => f x + sm f l
theorem sm_perm {f : Int → Nat} {a b : List Int} (h : a.Perm b) : sm f a = sm f b := by
  induction h with
  | nil => rfl
  | cons x _ ih => simp [sm, ih]
  | swap x y l => simp [sm]; omega
  | trans _ _ h1 h2 => exact h1.trans h2
theorem sm_app (f : Int → Nat) : ∀ a b : List Int, sm f (a ++ b) = sm f a + sm f b
  | [], b => by simp [sm]
  | x :: a, b => by simp only [List.cons_append, sm, sm_app f a b]; omega
theorem sm_map (f : Int → Nat) (k : Int → Int) : ∀ l : List Int, sm f (l.map k) = sm (fun x => f (k x)) l
  | [] => rfl
  | x :: l => by simp only [List.map_cons, sm, sm_map f k l]
theorem sm_congr {f f' : Int → Nat} : ∀ {l : List Int}, (∀ x ∈ l, f x = f' x) → sm f l = sm f' l
  | [], _ => rfl
  | x :: l, h => by rw [sm, sm, h x (by simp), sm_congr fun y hy => h y (by simp [hy])]
theorem sm_add (f f' : Int → Nat) : ∀ l : List Int, sm (fun x => f x + f' x) l = sm f l + sm f' l
  | [] => rfl
  | x :: l => by simp only [sm, sm_add f f' l]; omega
theorem sm_zero {f : Int → Nat} : ∀ {l : List Int}, sm f l = 0 → ∀ x ∈ l, f x = 0
  | [], _, x, hx => by cases hx
  | y :: l, h, x, hx => by
    simp only [sm] at h
    rcases List.mem_cons.1 hx with rfl | hx
    · omega
    · exact sm_zero (show sm f l = 0 by omega) x hx
theorem sm_const {f : Int → Nat} {k : Nat} : ∀ {l : List Int}, (∀ x ∈ l, f x = k) → sm f l = l.length * k
  | [], _ => by simp [sm]
  | x :: l, h => by rw [sm, h x (by simp), sm_const fun y hy => h y (by simp [hy]), List.length_cons, Nat.add_mul]; omega
theorem sm_le {f : Int → Nat} {k : Nat} : ∀ {l : List Int}, (∀ x ∈ l, f x ≤ k) → sm f l ≤ l.length * k
  | [], _ => by simp [sm]
  | x :: l, h => by
    have := h x (by simp)
    have := sm_le (f := f) (k := k) (l := l) fun y hy => h y (by simp [hy])
    rw [sm, List.length_cons, Nat.add_mul]; omega
/-- A single one of a list without twins. -/
theorem sm_ind {a : Int} : ∀ {b : List Int}, b.Nodup → sm (fun v => if a = v then 1 else 0) b = if a ∈ b then 1 else 0
  | [], _ => by simp [sm]
  | v :: b, nd => by
    obtain ⟨h1, h2⟩ := List.nodup_cons.1 nd
    rw [sm, sm_ind h2]
    by_cases e : a = v
    · subst e; simp [h1]
    · simp [e]
theorem sm_count {b : List Int} (nd : b.Nodup) {p : Int → Bool} {k : Int → Int} : ∀ {l : List Int}, (∀ x ∈ l, k x ∈ b) → sm (fun v => l.countP fun x => p x && decide (k x = v)) b = l.countP p
  | [], _ => by
    exact (sm_const (k := 0) fun x _ => rfl).trans (by simp)
  | x :: l, h => by
    have ih := sm_count nd (p := p) (k := k) (l := l) fun y hy => h y (by simp [hy])
    rw [List.countP_cons, ← ih]
    have e : ∀ v ∈ b, (x :: l).countP (fun x => p x && decide (k x = v)) = (l.countP fun x => p x && decide (k x = v)) + (if p x = true then if k x = v then 1 else 0 else 0) := by
      intro v _
      rw [List.countP_cons]
      congr 1
      cases p x <;> simp
    rw [sm_congr e, sm_add]
    congr 1
    cases q : p x with
    | false => simp; exact (sm_const (k := 0) fun x _ => rfl).trans (by simp)
    | true => simp; rw [sm_ind nd, if_pos (h x (by simp))]
def startsB (es : Es) (sel b : List Int) : List Int := b.flatMap (outF es sel)
def enF (g : Int) (es : Es) (sel : List Int) (x : Int) : Int := endF g es sel x.toNat
def frF (es : Es) (x : Int) : Int := fromH es x.toNat
def lnF (g : Int) (es : Es) (sel : List Int) (x : Int) : Nat := lenF g es sel x.toNat
def rhF (g : Int) (es : Es) (sel : List Int) (x : Int) : Int := ((rho g es sel x.toNat : Nat) : Int)
def goes (g : Int) (es : Es) (sel : List Int) (u v : Int) (x : Int) : Bool := decide (frF es x = u) && decide (enF g es sel x = v)
def cntF (g : Int) (es : Es) (sel b : List Int) (u v : Int) : Nat := (startsB es sel b).countP (goes g es sel u v)
section
variable {g d : Int} {es : Es} {sel b : List Int}
structure KOK (g d : Int) (es : Es) (sel b : List Int) : Prop where
  m : MayN g es
  c : ChosenK (es.length : Int) sel
  z : BrOK (outsF g es sel) d b
theorem KOK.lt (K : KOK g d es sel b) : b.Pairwise (· < ·) := by
  rw [K.z.eq]; unfold brL
  refine List.Pairwise.map _ (fun a b hab => ?_) (List.pairwise_lt_range.filter _)
  omega
theorem KOK.nd (K : KOK g d es sel b) : b.Nodup := K.lt.imp fun h e => by omega
theorem KOK.len (K : KOK g d es sel b) {v : Int} (hv : v ∈ b) : ((outF es sel v).length : Int) = d := (brOK_at K.m K.z hv).2.1
theorem KOK.mem (K : KOK g d es sel b) {x : Int} : x ∈ startsB es sel b ↔ ∃ n : Nat, x = n ∧ StartH es sel n ∧ fromH es n ∈ b := by
  unfold startsB
  rw [List.mem_flatMap]
  constructor
  · rintro ⟨v, hv, hx⟩
    obtain ⟨n, e, i, rfl⟩ := inH_out K.c hx
    exact ⟨n, e, ⟨i, (brOK_at K.m K.z hv).2.2⟩, hv⟩
  · rintro ⟨n, rfl, s, hb⟩
    exact ⟨_, hb, (outF_mem (chK K.c)).2 ⟨n, rfl, s.i.2, rfl⟩⟩
theorem KOK.inB (K : KOK g d es sel b) {n : Nat} (s : StartH es sel n) : fromH es n ∈ b := by
  have hr := toH_in K.m (mate_lt s.i.1)
  rw [mate_to] at hr
  rw [K.z.eq]; unfold brL
  refine List.mem_map.2 ⟨(fromH es n).toNat, List.mem_filter.2 ⟨?_, ?_⟩, by omega⟩
  · rw [List.mem_range, outsF_len]; omega
  · rw [getD_of'' (outsF_get hr.1 hr.2)]
    refine brP_iff.2 ⟨fun e => ?_, s.d⟩
    have : ((n : Nat) : Int) ∈ outF es sel (fromH es n) := (outF_mem (chK K.c)).2 ⟨n, rfl, s.i.2, rfl⟩
    rw [List.length_eq_zero_iff.1 e] at this; cases this
theorem KOK.start (K : KOK g d es sel b) {x : Int} (hx : x ∈ startsB es sel b) : StartH es sel x.toNat ∧ ((x.toNat : Nat) : Int) = x ∧ frF es x ∈ b := by
  obtain ⟨n, rfl, s, hb⟩ := K.mem.1 hx
  exact ⟨s, rfl, hb⟩
theorem KOK.rho (K : KOK g d es sel b) {x : Int} (hx : x ∈ startsB es sel b) : rhF g es sel x ∈ startsB es sel b ∧ rhF g es sel (rhF g es sel x) = x ∧ frF es (rhF g es sel x) = enF g es sel x ∧ enF g es sel (rhF g es sel x) = frF es x ∧ lnF g es sel (rhF g es sel x) = lnF g es sel x ∧ lnF g es sel x ≤ es.length ∧ 0 < lnF g es sel x := by
  obtain ⟨s, e, hb⟩ := K.start hx
  obtain ⟨a1, a2, a3, a4, a5, a6, a7⟩ := way_back K.m K.c s
  refine ⟨K.mem.2 ⟨_, rfl, a1, K.inB a1⟩, ?_, a2, a4, a5, a6, a7⟩
  unfold rhF
  rw [Int.toNat_natCast, a3, e]
theorem KOK.en (K : KOK g d es sel b) {x : Int} (hx : x ∈ startsB es sel b) : enF g es sel x ∈ b := by
  obtain ⟨h1, _, h3, _⟩ := K.rho hx
  exact h3 ▸ (K.start h1).2.2
theorem flat_nodup {es : Es} {sel : List Int} (c : ChosenK (es.length : Int) sel) : ∀ {b : List Int}, b.Nodup → (startsB es sel b).Nodup
  | [], _ => by simp [startsB]
  | v :: b, nd => by
    obtain ⟨h1, h2⟩ := List.nodup_cons.1 nd
    have ih := flat_nodup c h2
    unfold startsB at *
    rw [List.flatMap_cons]
    refine List.nodup_append.2 ⟨outF_nodup (chK c) c.2, ih, fun x hx y hy e => ?_⟩
    subst e
    obtain ⟨u, hu, hy⟩ := List.mem_flatMap.1 hy
    obtain ⟨n, rfl, _, rfl⟩ := inH_out c hx
    obtain ⟨n', e', _, rfl⟩ := inH_out c hy
    obtain rfl : n = n' := by omega
    exact h1 hu
theorem KOK.sn (K : KOK g d es sel b) : (startsB es sel b).Nodup := flat_nodup K.c K.nd
theorem KOK.perm (K : KOK g d es sel b) : (startsB es sel b).Perm ((startsB es sel b).map (rhF g es sel)) := by
  have nd : ((startsB es sel b).map (rhF g es sel)).Nodup := by
    refine List.pairwise_map.2 ?_
    refine List.Pairwise.imp_of_mem (R := (· ≠ ·)) (fun {x y} hx hy hne e => hne ?_) K.sn
    rw [← (K.rho hx).2.1, ← (K.rho hy).2.1, e]
  refine (List.perm_ext_iff_of_nodup K.sn nd).2 fun x => ⟨fun hx => ?_, fun hx => ?_⟩
  · exact List.mem_map.2 ⟨_, (K.rho hx).1, (K.rho hx).2.1⟩
  · obtain ⟨y, hy, rfl⟩ := List.mem_map.1 hx
    exact (K.rho hy).1
theorem KOK.sym (K : KOK g d es sel b) (u v : Int) : cntF g es sel b u v = cntF g es sel b v u := by
  unfold cntF
  rw [K.perm.countP_eq, List.countP_map]
  refine List.countP_congr fun x hx => ?_
  obtain ⟨_, _, h3, h4, _⟩ := K.rho hx
  unfold goes
  simp only [Function.comp, h3, h4, Bool.and_eq_true, decide_eq_true_eq]
  exact ⟨fun z => ⟨z.2, z.1⟩, fun z => ⟨z.2, z.1⟩⟩
theorem KOK.all (K : KOK g d es sel b) {u : Int} (hu : u ∈ b) : (sm (cntF g es sel b u) b : Int) = d := by
  have h1 : sm (cntF g es sel b u) b = (startsB es sel b).countP fun x => decide (frF es x = u) := sm_count K.nd fun x hx => K.en hx
  have h2 : ((startsB es sel b).filter fun x => decide (frF es x = u)).Perm (outF es sel u) := by
    refine (List.perm_ext_iff_of_nodup (K.sn.filter _) (outF_nodup (chK K.c) K.c.2)).2 fun x => ?_
    rw [List.mem_filter, decide_eq_true_eq]
    constructor
    · rintro ⟨hx, rfl⟩
      obtain ⟨n, rfl, s, _⟩ := K.mem.1 hx
      exact (outF_mem (chK K.c)).2 ⟨n, rfl, s.i.2, rfl⟩
    · intro hx
      obtain ⟨n, rfl, i, rfl⟩ := inH_out K.c hx
      exact ⟨K.mem.2 ⟨n, rfl, ⟨i, (brOK_at K.m K.z hu).2.2⟩, hu⟩, rfl⟩
  rw [h1, List.countP_eq_length_filter, h2.length_eq, K.len hu]
/-- No two ways between the same, none from a node to itself. -/
structure InjB (g : Int) (es : Es) (sel b : List Int) : Prop where
  loop : ∀ x ∈ startsB es sel b, enF g es sel x ≠ frF es x
  one : ∀ x ∈ startsB es sel b, ∀ y ∈ startsB es sel b, frF es x = frF es y → enF g es sel x = enF g es sel y → x = y
theorem goes_iff {u v x : Int} : goes g es sel u v x = true ↔ frF es x = u ∧ enF g es sel x = v := by simp [goes]
theorem InjB.of (K : KOK g d es sel b) (h0 : ∀ u ∈ b, cntF g es sel b u u = 0) (h1 : ∀ u ∈ b, ∀ v ∈ b, cntF g es sel b u v ≤ 1) : InjB g es sel b := by
  refine ⟨fun x hx e => ?_, fun x hx y hy e1 e2 => Decidable.byContradiction fun hne => ?_⟩
  · have := List.countP_eq_zero.1 (h0 _ (K.start hx).2.2) x hx
    exact this (goes_iff.2 ⟨rfl, e⟩)
  · have h := h1 _ (K.start hx).2.2 _ (K.en hx)
    unfold cntF at h
    rw [List.countP_eq_length_filter] at h
    have m1 : x ∈ (startsB es sel b).filter (goes g es sel (frF es x) (enF g es sel x)) := List.mem_filter.2 ⟨hx, goes_iff.2 ⟨rfl, rfl⟩⟩
    have m2 : y ∈ (startsB es sel b).filter (goes g es sel (frF es x) (enF g es sel x)) := List.mem_filter.2 ⟨hy, goes_iff.2 ⟨e1.symm, e2.symm⟩⟩
    match hf : (startsB es sel b).filter (goes g es sel (frF es x) (enF g es sel x)) with
    | [] => rw [hf] at m1; cases m1
    | [a] => rw [hf] at m1 m2; exact hne ((List.mem_singleton.1 m1).trans (List.mem_singleton.1 m2).symm)
    | _ :: _ :: _ => rw [hf] at h; simp at h
theorem InjB.le (K : KOK g d es sel b) (I : InjB g es sel b) (u v : Int) : cntF g es sel b u v ≤ 1 := by
  unfold cntF
  rw [List.countP_eq_length_filter]
  have nd := K.sn.filter (goes g es sel u v)
  match hf : (startsB es sel b).filter (goes g es sel u v) with
  | [] => simp
  | [a] => simp
  | x :: y :: r =>
    exfalso
    rw [hf] at nd
    have mx : x ∈ (startsB es sel b).filter (goes g es sel u v) := by rw [hf]; simp
    have my : y ∈ (startsB es sel b).filter (goes g es sel u v) := by rw [hf]; simp
    obtain ⟨x1, x2⟩ := List.mem_filter.1 mx
    obtain ⟨y1, y2⟩ := List.mem_filter.1 my
    have gx := goes_iff.1 x2
    have gy := goes_iff.1 y2
    have := I.one x x1 y y1 (gx.1.trans gy.1.symm) (gx.2.trans gy.2.symm)
    subst this
    simp at nd
theorem InjB.self (I : InjB g es sel b) (u : Int) : cntF g es sel b u u = 0 := List.countP_eq_zero.2 fun x hx q => by
  have := goes_iff.1 q
  exact I.loop x hx (this.2.trans this.1.symm)
theorem cnt_pos {u v : Int} : 0 < cntF g es sel b u v ↔ ∃ x ∈ startsB es sel b, frF es x = u ∧ enF g es sel x = v := by
  unfold cntF
  rw [List.countP_pos_iff]
  exact ⟨fun ⟨x, hx, q⟩ => ⟨x, hx, goes_iff.1 q⟩, fun ⟨x, hx, q⟩ => ⟨x, hx, goes_iff.2 q⟩⟩
def usedF (g : Int) (es : Es) (sel : List Int) (x : Int) : Nat := if frF es x < enF g es sel x then lnF g es sel x else 0
theorem KOK.used (K : KOK g d es sel b) (I : ∀ x ∈ startsB es sel b, enF g es sel x ≠ frF es x) : sm (lnF g es sel) (startsB es sel b) = 2 * sm (usedF g es sel) (startsB es sel b) := by
  have e1 : sm (lnF g es sel) (startsB es sel b) = sm (fun x => usedF g es sel x + usedF g es sel (rhF g es sel x)) (startsB es sel b) := by
    refine sm_congr fun x hx => ?_
    obtain ⟨_, _, h3, h4, h5, _⟩ := K.rho hx
    have := I x hx
    unfold usedF
    rw [h3, h4, h5]
    split <;> split <;> omega
  have e2 := sm_map (usedF g es sel) (rhF g es sel) (startsB es sel b)
  have e3 := sm_perm (f := usedF g es sel) K.perm
  rw [e1, sm_add]; omega
theorem paths_eq (g : Int) (es : Es) (sel b : List Int) : pathsB g es sel b = (startsB es sel b).map fun x => folF es (outsF g es sel) x.toNat := by
  unfold pathsB startsB; rw [List.map_flatMap]
theorem totL_sm (g : Int) (es : Es) (sel : List Int) : ∀ l : List Int, totL (l.map fun x => folF es (outsF g es sel) x.toNat) = sm (lnF g es sel) l
  | [] => rfl
  | x :: l => by simp only [List.map_cons, totL, sm, totL_sm g es sel l]; rfl
theorem KOK.tot (K : KOK g d es sel b) (I : ∀ x ∈ startsB es sel b, enF g es sel x ≠ frF es x) : totL (pathsB g es sel b) = 2 * sm (usedF g es sel) (startsB es sel b) := by
  rw [paths_eq, totL_sm, K.used I]
theorem KOK.ends (K : KOK g d es sel b) {x : Int} (hx : x ∈ startsB es sel b) : endsP es (folF es (outsF g es sel) x.toNat) = (frF es x, enF g es sel x) := (ends_folF K.m K.c (K.start hx).1).1
theorem KOK.hits (K : KOK g d es sel b) (u v : Int) : (hits es (pathsB g es sel b) u v (pathsB g es sel b).length).length = cntF g es sel b u v := by
  rw [hits_count _ _ _ _ _ (Nat.le_refl _), List.take_length, paths_eq, List.countP_map]
  unfold cntF
  refine List.countP_congr fun x hx => ?_
  simp only [Function.comp, K.ends hx, goes, Bool.and_eq_true, decide_eq_true_eq, Prod.mk.injEq]
theorem KOK.betw (K : KOK g d es sel b) (u v : Int) : (cntF g es sel b u v = 1 ↔ ∃ i, N.betw es (pathsB g es sel b) u v = some i) ∧ (cntF g es sel b u v ≠ 1 ↔ N.betw es (pathsB g es sel b) u v = none) := by
  have h := K.hits u v
  unfold N.betw
  match hh : N.hits es (pathsB g es sel b) u v (pathsB g es sel b).length with
  | [] => rw [hh] at h; exact ⟨⟨fun z => by rw [← h] at z; simp at z, fun ⟨i, z⟩ => by cases z⟩, fun _ => rfl, fun _ => by rw [← h]; simp⟩
  | [i] => rw [hh] at h; exact ⟨⟨fun _ => ⟨i, rfl⟩, fun _ => by rw [← h]; rfl⟩, fun z => absurd (by rw [← h]; rfl) z, fun z => by cases z⟩
  | _ :: _ :: _ => rw [hh] at h; exact ⟨⟨fun z => by rw [← h] at z; simp at z, fun ⟨i, z⟩ => by cases z⟩, fun _ => rfl, fun _ => by rw [← h]; simp⟩
/-- The way between two nodes. -/
def pathOf (g : Int) (es : Es) (sel b : List Int) (u v : Int) : List Int := match (startsB es sel b).find? (goes g es sel u v) with
  | some x => folF es (outsF g es sel) x.toNat
  | none => []
theorem pathOf_eq (I : InjB g es sel b) {x u v : Int} (hx : x ∈ startsB es sel b) (h1 : frF es x = u) (h2 : enF g es sel x = v) : pathOf g es sel b u v = folF es (outsF g es sel) x.toNat := by
  unfold pathOf
  cases e : (startsB es sel b).find? (goes g es sel u v) with
  | none => exact absurd (goes_iff.2 ⟨h1, h2⟩) (List.find?_eq_none.1 e x hx)
  | some y =>
    have q := goes_iff.1 (List.find?_some e)
    have := I.one x hx y (List.mem_of_find?_eq_some e) (h1.trans q.1.symm) (h2.trans q.2.symm)
    subst this; rfl
theorem KOK.at (K : KOK g d es sel b) (I : InjB g es sel b) {u v : Int} {i : Nat} (h : N.betw es (pathsB g es sel b) u v = some i) : (pathsB g es sel b).getD i [] = pathOf g es sel b u v := by
  obtain ⟨hi, he⟩ := betw_some h
  have hm : (pathsB g es sel b).getD i [] ∈ pathsB g es sel b := by
    rw [List.getD_eq_getElem?_getD, List.getElem?_eq_getElem hi]; exact List.getElem_mem hi
  rw [paths_eq] at hm
  obtain ⟨x, hx, e⟩ := List.mem_map.1 hm
  rw [paths_eq, ← e, K.ends hx] at he
  rw [paths_eq, ← e, pathOf_eq I hx (Prod.mk.inj he).1 (Prod.mk.inj he).2]
theorem KOK.picked (K : KOK g d es sel b) (I : InjB g es sel b) {pairs : List (Int × Int)} {ix : List Nat} (hl : ix.length = pairs.length) (s : Sel es (pathsB g es sel b) pairs ix) : (ix.map fun i => (pathsB g es sel b).getD i []) = pairs.map fun q => pathOf g es sel b q.1 q.2 := by
  apply List.ext_getElem
  · simp [hl]
  · intro j h1 h2
    simp only [List.getElem_map]
    simp only [List.length_map] at h1 h2
    exact K.at I (s j _ _ (List.getElem?_eq_getElem h1) (List.getElem?_eq_getElem h2))
end
end Go.Proofs.Ytmcloipjlihhlaa.N

/- Package kura: what the document tells of chosen edges is what the program tells. Conditions: none. -/
set_option linter.unusedSimpArgs false
set_option linter.unusedVariables false
namespace Go.Proofs.Ytmcloipjlihhlaa.N
open Go.X Go.Proofs.Ytmcloipjlihhlaa
set_option maxRecDepth 100000

theorem sm_one {f : Int → Nat} {l : List Int} (h : sm f l = l.length) (le : ∀ x ∈ l, f x ≤ 1) : ∀ x ∈ l, f x = 1 := by
  have e : sm (fun x => (1 - f x) + f x) l = l.length := by
    rw [sm_const (k := 1) fun x hx => by have := le x hx; omega]; omega
  rw [sm_add, h] at e
  have z := sm_zero (f := fun x => 1 - f x) (l := l) (by omega)
  intro x hx
  have := z x hx
  have := le x hx
  omega
theorem sm_ge {f : Int → Nat} {l : List Int} (h : sm f l = l.length) (ge : ∀ x ∈ l, 1 ≤ f x) : ∀ x ∈ l, f x = 1 := by
  have e : sm f l = sm (fun x => (f x - 1) + 1) l := sm_congr fun x hx => by have := ge x hx; omega
  rw [sm_add, sm_const (f := fun _ => 1) (k := 1) fun x _ => rfl, h] at e
  have z := sm_zero (f := fun x => f x - 1) (l := l) (by omega)
  intro x hx
  have := z x hx
  have := ge x hx
  omega
theorem preP_of {b : List Int} {i j : Nat} {u v : Int} (hi : b[i]? = some u) (hj : b[j]? = some v) (h : i < j) : (u, v) ∈ preP b b.length := by
  unfold preP
  refine List.mem_flatMap.2 ⟨i, List.mem_range.2 (List.getElem?_eq_some_iff.1 hi).1, List.mem_map.2 ⟨v, ?_, by rw [getD_of' hi]⟩⟩
  refine List.mem_of_getElem? (i := j - (i + 1)) ?_
  rw [List.getElem?_drop, show i + 1 + (j - (i + 1)) = j by omega, hj]
theorem preP_in {b : List Int} (lt : b.Pairwise (· < ·)) {q : Int × Int} (h : q ∈ preP b b.length) : q.1 ∈ b ∧ q.2 ∈ b ∧ q.1 < q.2 := by
  obtain ⟨i, hi, e1, e2⟩ := preP_mem h
  have hb := List.getElem?_eq_getElem hi
  rw [getD_of' hb] at e1
  obtain ⟨j, hj, e⟩ := List.getElem_of_mem e2
  rw [List.getElem_drop] at e
  simp only [List.length_drop] at hj
  refine ⟨e1 ▸ List.getElem_mem hi, List.mem_of_mem_drop e2, ?_⟩
  rw [e1, ← e]
  exact List.pairwise_iff_getElem.1 lt i (i + 1 + j) hi (by omega) (by omega)
theorem Sel.some {es : Es} {paths : List (List Int)} {pairs : List (Int × Int)} {ix : List Nat} (hl : ix.length = pairs.length) (s : Sel es paths pairs ix) {q : Int × Int} (hq : q ∈ pairs) : ∃ i, betw es paths q.1 q.2 = Option.some i := by
  obtain ⟨j, hj⟩ := List.mem_iff_getElem?.1 hq
  have hjl := (List.getElem?_eq_some_iff.1 hj).1
  exact ⟨_, s j _ q (List.getElem?_eq_getElem (show j < ix.length by omega)) hj⟩
section
variable {g : Int} {es : Es} {sel b : List Int}
def firstsB (g : Int) (es : Es) (sel b : List Int) : List Int := b.filter fun v => decide (v = b.headD 0) || decide (cntF g es sel b (b.headD 0) v = 0)
def othersB (g : Int) (es : Es) (sel b : List Int) : List Int := b.filter fun v => !(decide (v = b.headD 0) || decide (cntF g es sel b (b.headD 0) v = 0))
theorem isNo_cnt {d : Int} (K : KOK g d es sel b) {u v : Int} (h : cntF g es sel b u v ≤ 1) : isNo es (pathsB g es sel b) u v = decide (cntF g es sel b u v = 0) := by
  unfold isNo
  have := K.betw u v
  cases e : betw es (pathsB g es sel b) u v with
  | none =>
    have q := this.2.2 e
    exact (decide_eq_true (show cntF g es sel b u v = 0 by omega)).symm
  | some i =>
    have q := this.1.2 ⟨i, e⟩
    exact (decide_eq_false (show ¬ cntF g es sel b u v = 0 by omega)).symm
theorem sides_eq {u : Int} {rest : List Int} (K : KOK g 3 es sel (u :: rest)) (h : ∀ v ∈ rest, cntF g es sel (u :: rest) u v ≤ 1) :
    sideA es (pathsB g es sel (u :: rest)) u rest = firstsB g es sel (u :: rest) ∧ sideB es (pathsB g es sel (u :: rest)) u rest = othersB g es sel (u :: rest) := by
  have nu : ∀ v ∈ rest, v ≠ u := fun v hv e => (List.nodup_cons.1 K.nd).1 (e ▸ hv)
  have eu : (decide (u = (u :: rest).headD 0) || decide (cntF g es sel (u :: rest) ((u :: rest).headD 0) u = 0)) = true := by simp
  have key : ∀ v ∈ rest, isNo es (pathsB g es sel (u :: rest)) u v = (decide (v = (u :: rest).headD 0) || decide (cntF g es sel (u :: rest) ((u :: rest).headD 0) v = 0)) := fun v hv => by
    rw [isNo_cnt K (h v hv), decide_eq_false (show ¬ v = (u :: rest).headD 0 from nu v hv), Bool.false_or]; rfl
  unfold sideA sideB firstsB othersB
  refine ⟨?_, ?_⟩
  · rw [List.filter_cons, eu, if_pos rfl]
    congr 1
    exact List.filter_congr key
  · rw [List.filter_cons, eu, if_neg (by decide)]
    exact List.filter_congr fun v hv => by rw [key v hv]
theorem good_ref {k : Int} {p : List (List Int)} (m : MayN g es) (c : ChosenK (es.length : Int) sel) (h : Good g es sel k b p) :
    (k = 5 ∧ KOK g 4 es sel b ∧ InjB g es sel b ∧ sm (usedF g es sel) (startsB es sel b) = sel.length ∧ p = (preP b b.length).map fun q => pathOf g es sel b q.1 q.2) ∨
    (k = 33 ∧ ∃ B, KOK g 3 es sel B ∧ InjB g es sel B ∧ sm (usedF g es sel) (startsB es sel B) = sel.length ∧ (firstsB g es sel B).length = 3 ∧ (∀ u ∈ firstsB g es sel B, ∀ v ∈ othersB g es sel B, cntF g es sel B u v ≠ 0) ∧
      b = firstsB g es sel B ++ othersB g es sel B ∧ p = (pairsOf (firstsB g es sel B) (othersB g es sel B)).map fun q => pathOf g es sel B q.1 q.2) := by
  rcases h with ⟨rfl, z, t, ix, hl, s, rfl⟩ | ⟨rfl, u, rest, z, t, b3, rfl, ix, hl, s, rfl⟩
  · have K : KOK g 4 es sel b := ⟨m, c, z⟩
    have bl : b.length = 5 := by rcases z.shape with ⟨_, e⟩ | ⟨e, _⟩ <;> omega
    have one : ∀ u ∈ b, ∀ v ∈ b, u ≠ v → cntF g es sel b u v = 1 := by
      intro u hu v hv hne
      obtain ⟨i, hi⟩ := List.mem_iff_getElem?.1 hu
      obtain ⟨j, hj⟩ := List.mem_iff_getElem?.1 hv
      rcases Nat.lt_trichotomy i j with q | q | q
      · exact (K.betw u v).1.2 (s.some hl (preP_of hi hj q))
      · subst q; exact absurd (Option.some.inj (hi.symm.trans hj)) hne
      · rw [K.sym]; exact (K.betw v u).1.2 (s.some hl (preP_of hj hi q))
    have self : ∀ u ∈ b, cntF g es sel b u u = 0 := by
      intro u hu
      have h4 := K.all hu
      have h5 : sm (fun v => cntF g es sel b u v + if u = v then 1 else 0) b = b.length := by
        rw [sm_add, sm_ind K.nd, if_pos hu]; omega
      have := sm_ge h5 (fun v hv => by
        by_cases e : u = v
        · simp [e]
        · have := one u hu v hv e; omega) u hu
      simp at this; exact this
    have I : InjB g es sel b := InjB.of K self fun u hu v hv => by
      by_cases e : u = v
      · subst e; rw [self u hu]; omega
      · rw [one u hu v hv e]; omega
    have ht := K.tot I.loop
    exact .inl ⟨rfl, K, I, by omega, K.picked I hl s⟩
  · have K : KOK g 3 es sel (u :: rest) := ⟨m, c, z⟩
    have bl : rest.length = 5 := by
      rcases z.shape with ⟨e, _⟩ | ⟨_, e⟩
      · omega
      · simpa using e
    have sl := side_len es (pathsB g es sel (u :: rest)) u rest
    have pm : (u :: rest).Perm (sideA es (pathsB g es sel (u :: rest)) u rest ++ sideB es (pathsB g es sel (u :: rest)) u rest) := by
      unfold sideA sideB
      rw [List.cons_append]
      exact ((List.filter_append_perm (isNo es (pathsB g es sel (u :: rest)) u) rest).symm).cons u
    have nd : (sideA es (pathsB g es sel (u :: rest)) u rest ++ sideB es (pathsB g es sel (u :: rest)) u rest).Nodup := pm.nodup_iff.1 K.nd
    have one : ∀ x ∈ sideA es (pathsB g es sel (u :: rest)) u rest, ∀ y ∈ sideB es (pathsB g es sel (u :: rest)) u rest, cntF g es sel (u :: rest) x y = 1 := fun x hx y hy =>
      (K.betw x y).1.2 (s.some hl (q := (x, y)) (List.mem_flatMap.2 ⟨x, hx, List.mem_map.2 ⟨y, hy, rfl⟩⟩))
    have tot : ∀ x ∈ u :: rest, sm (cntF g es sel (u :: rest) x) (sideA es (pathsB g es sel (u :: rest)) u rest) + sm (cntF g es sel (u :: rest) x) (sideB es (pathsB g es sel (u :: rest)) u rest) = 3 := by
      intro x hx
      have := K.all hx
      rw [sm_perm pm, sm_app] at this; omega
    have zA : ∀ x ∈ sideA es (pathsB g es sel (u :: rest)) u rest, ∀ y ∈ sideA es (pathsB g es sel (u :: rest)) u rest, cntF g es sel (u :: rest) x y = 0 := by
      intro x hx
      have h1 := tot x (pm.mem_iff.2 (List.mem_append_left _ hx))
      have h2 : sm (cntF g es sel (u :: rest) x) (sideB es (pathsB g es sel (u :: rest)) u rest) = _ := sm_const (k := 1) (one x hx)
      exact sm_zero (by omega)
    have zB : ∀ x ∈ sideB es (pathsB g es sel (u :: rest)) u rest, ∀ y ∈ sideB es (pathsB g es sel (u :: rest)) u rest, cntF g es sel (u :: rest) x y = 0 := by
      intro x hx
      have h1 := tot x (pm.mem_iff.2 (List.mem_append_right _ hx))
      have h2 : sm (cntF g es sel (u :: rest) x) (sideA es (pathsB g es sel (u :: rest)) u rest) = _ := sm_const (k := 1) fun y hy => by rw [K.sym]; exact one y hy x hx
      exact sm_zero (by omega)
    have mem : ∀ x ∈ u :: rest, x ∈ sideA es (pathsB g es sel (u :: rest)) u rest ∨ x ∈ sideB es (pathsB g es sel (u :: rest)) u rest := fun x hx => List.mem_append.1 (pm.mem_iff.1 hx)
    have I : InjB g es sel (u :: rest) := by
      refine InjB.of K (fun x hx => ?_) fun x hx y hy => ?_
      · rcases mem x hx with q | q
        · exact zA x q x q
        · exact zB x q x q
      · rcases mem x hx with q | q <;> rcases mem y hy with w | w
        · rw [zA x q y w]; omega
        · rw [one x q y w]; omega
        · rw [K.sym, one y w x q]; omega
        · rw [zB x q y w]; omega
    obtain ⟨e1, e2⟩ := sides_eq K fun v _ => I.le K u v
    have ht := K.tot I.loop
    refine .inr ⟨rfl, u :: rest, K, I, by omega, by rw [← e1]; omega, fun x hx y hy => ?_, by rw [← e1, ← e2], ?_⟩
    · rw [one x (e1 ▸ hx) y (e2 ▸ hy)]; omega
    · rw [← e1, ← e2]; exact K.picked I hl s
theorem ref_five {b : List Int} (K : KOK g 4 es sel b) (I : InjB g es sel b) (hu : sm (usedF g es sel) (startsB es sel b) = sel.length) :
    Good g es sel 5 b ((preP b b.length).map fun q => pathOf g es sel b q.1 q.2) ∧ ∀ u ∈ b, ∀ v ∈ b, u ≠ v → cntF g es sel b u v = 1 := by
  have bl : b.length = 5 := by rcases K.z.shape with ⟨_, e⟩ | ⟨e, _⟩ <;> omega
  have one : ∀ u ∈ b, ∀ v ∈ b, u ≠ v → cntF g es sel b u v = 1 := by
    intro u hu v hv hne
    have h4 := K.all hu
    have h5 : sm (fun v => cntF g es sel b u v + if u = v then 1 else 0) b = b.length := by
      rw [sm_add, sm_ind K.nd, if_pos hu]; omega
    have := sm_one h5 (fun v hv => by
      by_cases e : u = v
      · subst e; rw [I.self]; simp
      · rw [if_neg e]; exact I.le K u v) v hv
    rw [if_neg hne] at this; exact this
  obtain ⟨ix, h1, h2⟩ := sel_ex (es := es) (paths := pathsB g es sel b) (pairs := preP b b.length) fun q hq => by
    obtain ⟨q1, q2, q3⟩ := preP_in K.lt hq
    exact (K.betw _ _).1.1 (one _ q1 _ q2 (by omega))
  refine ⟨.inl ⟨rfl, K.z, by rw [K.tot I.loop, hu], ix, h1, h2, (K.picked I h1 h2).symm⟩, one⟩
theorem ref_three {B : List Int} (K : KOK g 3 es sel B) (I : InjB g es sel B) (hu : sm (usedF g es sel) (startsB es sel B) = sel.length) (h3 : (firstsB g es sel B).length = 3) (hw : ∀ u ∈ firstsB g es sel B, ∀ v ∈ othersB g es sel B, cntF g es sel B u v ≠ 0) :
    Good g es sel 33 (firstsB g es sel B ++ othersB g es sel B) ((pairsOf (firstsB g es sel B) (othersB g es sel B)).map fun q => pathOf g es sel B q.1 q.2) := by
  match B, K, I, hu, h3, hw with
  | [], K, _, _, _, _ => rcases K.z.shape with ⟨_, e⟩ | ⟨_, e⟩ <;> simp at e
  | u :: rest, K, I, hu, h3, hw =>
    have bl : rest.length = 5 := by
      rcases K.z.shape with ⟨e, _⟩ | ⟨_, e⟩
      · omega
      · simpa using e
    obtain ⟨e1, e2⟩ := sides_eq K fun v _ => I.le K u v
    have sl := side_len es (pathsB g es sel (u :: rest)) u rest
    obtain ⟨ix, i1, i2⟩ := sel_ex (es := es) (paths := pathsB g es sel (u :: rest)) (pairs := pairsOf (firstsB g es sel (u :: rest)) (othersB g es sel (u :: rest))) fun q hq => by
      obtain ⟨x, hx, hq⟩ := List.mem_flatMap.1 hq
      obtain ⟨y, hy, rfl⟩ := List.mem_map.1 hq
      refine (K.betw _ _).1.1 ?_
      have := hw x hx y hy
      have := I.le K x y
      dsimp only; omega
    refine .inr ⟨rfl, u, rest, K.z, by rw [K.tot I.loop, hu], by rw [e1] at sl; omega, by rw [e1, e2], ix, by rw [e1, e2]; exact i1, by rw [e1, e2]; exact i2, (K.picked I i1 i2).symm⟩
end
end Go.Proofs.Ytmcloipjlihhlaa.N
