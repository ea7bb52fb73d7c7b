/- Whatever is read is a document that may be written, its numbers clean; faults lie in the text; a reader that knows all numbers tells. Conditions: none. -/
import Derived.Test.YtlflalecmhgmjaaGreatDoorGBack
import Derived.Test.YtlflalecmhgmjaaGreatDoorHBr
import Derived.Test.YtlflalecmhgmjaaGreatDoorSLex
set_option linter.unusedVariables false
set_option linter.unusedSimpArgs false
namespace Go.Proofs.YtlflalecmhgmjaaGreatDoor.G
theorem run_le (p : Nat -> Bool) (s : ByteArray) : ∀ n i, s.size - i = n -> i <= s.size -> run p s i <= s.size := by
 intro n
 induction n with
 | zero => intro i h1 h2; rw [run, if_neg (by omega)]; exact h2
 | succ n ih =>
  intro i h1 h2
  rw [run]
  split
  ·exact ih (i + 1) (by omega) (by omega)
  ·exact h2
theorem run_lt {p : Nat -> Bool} {s : ByteArray} {i : Nat} (h : i < s.size) (hp : p (bt s i) = true) : i < run p s i := by
 rw [run, if_pos ⟨h, hp⟩]
 exact run_ge p s (i + 1)
theorem skp_le (s : ByteArray) : ∀ n i, s.size - i <= n -> i <= s.size -> i <= skp s i /\ skp s i <= s.size := by
 intro n
 induction n with
 | zero => intro i h1 h2; rw [skp, if_neg (by omega)]; exact ⟨Nat.le_refl _, h2⟩
 | succ n ih =>
  intro i h1 h2
  rw [skp]
  split
  ·rename_i hlt
   split
   ·have := ih (i + 1) (by omega) (by omega); omega
   ·split
    ·have h3 := run_ge (fun c => decide (c ≠ 10)) s (i + 1)
     have h4 := run_le (fun c => decide (c ≠ 10)) s _ (i + 1) rfl (by omega)
     have := ih _ (by omega) h4; omega
    ·omega
  ·omega
theorem digs_ge (s : ByteArray) : ∀ k n i, i <= (digs s k n i).2
 | 0, n, i => Nat.le_refl _
 | k + 1, n, i => by
  rw [digs]
  split
  ·have := digs_ge s k (10 * n + (bt s i - 48)) (i + 1); omega
  ·exact Nat.le_refl _
theorem bt_lt {s : ByteArray} {i : Nat} (h : bt s i ≠ 256) : i < s.size := by
 unfold bt at h
 split at h
 ·rename_i c hc
  by_cases hh : i < s.size
  ·exact hh
  ·rw [getElem?_neg s i hh] at hc; cases hc
 ·exact absurd rfl h
theorem preB_lt {s : ByteArray} {i : Nat} {l : List UInt8} (h : preB s i l = true) : l.length <= s.size - i \/ l = [] := by
 unfold preB at h
 have h := of_decide_eq_true h
 have h2 := congrArg List.length h
 rw [ByteArray.data_extract, Array.toList_extract, List.extract_eq_take_drop, List.length_take, List.length_drop, <- size_len] at h2
 left; omega
theorem part_le {s : ByteArray} {i c n : Nat} (hi : i < s.size) (h : part s i = some (c, n)) : 0 < n /\ i + n <= s.size := by
 unfold part at h
 have pre : ∀ {l : List UInt8} {m : Nat}, preB s i l = true -> l.length = m -> 0 < m -> i + m <= s.size := by
  intro l m q e hm
  rcases preB_lt q with q | q
  ·omega
  ·subst q; simp at e; omega
 split at h
 ·rename_i q; cases h; exact ⟨by decide, pre q rfl (by decide)⟩
 split at h
 ·rename_i q; cases h; exact ⟨by decide, pre q rfl (by decide)⟩
 split at h
 ·rename_i q; cases h; exact ⟨by decide, pre q rfl (by decide)⟩
 split at h
 ·rename_i q; cases h; exact ⟨by decide, pre q rfl (by decide)⟩
 split at h
 ·rename_i q; cases h; exact ⟨by decide, pre q rfl (by decide)⟩
 split at h
 ·cases h
 ·have hg := digs_ge s 3 0 (i + 2)
  generalize digs s 3 0 (i + 2) = y at h hg
  obtain ⟨m, k⟩ := y
  simp only at h hg
  split at h
  ·cases h
  ·rename_i q
   simp only [not_or] at q
   simp only [Option.some.injEq, Prod.mk.injEq] at h
   have := bt_lt (s := s) (i := k) (by have := q.2.1; omega)
   omega
theorem str_le {s : ByteArray} {fr : Nat} (hfr : fr <= s.size) : ∀ n i out, s.size - i <= n -> i <= s.size ->
  (∀ l j, str s fr i out = .ok (l, j) -> i < j /\ j <= s.size) /\ (∀ f, str s fr i out = .no f -> f.1 <= s.size) /\ str s fr i out ≠ .un := by
 intro n
 induction n with
 | zero =>
  intro i out h1 h2
  rw [str, if_neg (by omega)]
  exact ⟨fun _ _ h => (by cases h), fun f h => (by cases h; exact hfr), by simp⟩
 | succ n ih =>
  intro i out h1 h2
  rw [str]
  split
  ·rename_i hlt
   split
   ·exact ⟨fun _ _ h => (by cases h; omega), fun f h => (by cases h), by simp⟩
   ·split
    ·split
     ·rename_i c m hp
      obtain ⟨p1, p2⟩ := part_le hlt hp
      obtain ⟨q1, q2, q3⟩ := ih (i + (m - 1) + 1) (out ++ [UInt8.ofNat c]) (by omega) (by omega)
      exact ⟨fun l j h => (by have := q1 l j h; omega), q2, q3⟩
     ·exact ⟨fun _ _ h => (by cases h), fun f h => (by cases h; exact h2), by simp⟩
    ·split
     ·obtain ⟨q1, q2, q3⟩ := ih (i + 1) (out ++ [UInt8.ofNat (bt s i)]) (by omega) (by omega)
      exact ⟨fun l j h => (by have := q1 l j h; omega), q2, q3⟩
     ·exact ⟨fun _ _ h => (by cases h), fun f h => (by cases h; exact h2), by simp⟩
  ·exact ⟨fun _ _ h => (by cases h), fun f h => (by cases h; exact hfr), by simp⟩
theorem next_le {s : ByteArray} {i : Nat} (hi : i <= s.size) :
  (∀ t j, next s i = .ok (t, j) -> i <= j /\ j <= s.size /\ t.at_ <= s.size /\ (t.kind ≠ 0 -> i < j)) /\ (∀ f, next s i = .no f -> f.1 <= s.size) /\ next s i ≠ .un := by
 obtain ⟨h1, h2⟩ := skp_le s _ i (Nat.le_refl _) hi
 unfold next
 generalize skp s i = p at h1 h2
 simp only []
 split
 ·exact ⟨fun _ _ h => (by cases h; exact ⟨h1, h2, h2, fun q => absurd rfl q⟩), fun f h => (by cases h), by simp⟩
 ·rename_i hp
  split
  ·exact ⟨fun _ _ h => (by cases h; exact ⟨by omega, by omega, h2, fun q => by omega⟩), fun f h => (by cases h), by simp⟩
  split
  ·exact ⟨fun _ _ h => (by cases h; exact ⟨by omega, by omega, h2, fun q => by omega⟩), fun f h => (by cases h), by simp⟩
  split
  ·obtain ⟨q1, q2, q3⟩ := str_le h2 _ (p + 1) [] (Nat.le_refl _) (by omega)
   generalize str s p (p + 1) [] = y at q1 q2 q3
   cases y with
   | ok a =>
    obtain ⟨l, j⟩ := a
    have := q1 l j rfl
    exact ⟨fun _ _ h => (by cases h; exact ⟨by omega, by omega, h2, fun q => by omega⟩), fun f h => (by cases h), by simp [Er.bind]⟩
   | no f => exact ⟨fun _ _ h => (by cases h), fun g h => (by cases h; exact q2 f rfl), by simp [Er.bind]⟩
   | un => exact absurd rfl q3
  split
  ·rename_i hc
   have r1 := run_lt (p := wordB) (s := s) (i := p) (by omega) (by simp [wordB, hc])
   have r2 := run_le wordB s _ p rfl h2
   exact ⟨fun _ _ h => (by cases h; exact ⟨by omega, by omega, h2, fun q => by omega⟩), fun f h => (by cases h), by simp⟩
  split
  ·rename_i hc
   have r1 := run_lt (p := numbB) (s := s) (i := p) (by omega) (by rcases hc with hc | hc | hc | hc <;> simp [numbB, hc])
   have r2 := run_le numbB s _ p rfl h2
   exact ⟨fun _ _ h => (by cases h; exact ⟨by omega, by omega, h2, fun q => by omega⟩), fun f h => (by cases h), by simp⟩
  ·exact ⟨fun _ _ h => (by cases h), fun f h => (by cases h; exact h2), by simp⟩
def Er.all {α : Type} (x : Er α) (P : α -> Prop) (m : Nat) : Prop := (∀ a, x = .ok a -> P a) /\ ∀ f, x = .no f -> f.1 <= m
theorem Er.all_ok {α : Type} {a : α} {P : α -> Prop} {m : Nat} (h : P a) : (Er.ok a).all P m := ⟨fun _ q => (by cases q; exact h), fun _ q => (by cases q)⟩
theorem Er.all_no {α : Type} {f : F} {P : α -> Prop} {m : Nat} (h : f.1 <= m) : (Er.no f : Er α).all P m := ⟨fun _ q => (by cases q), fun _ q => (by cases q; exact h)⟩
theorem Er.all_un {α : Type} {P : α -> Prop} {m : Nat} : (Er.un : Er α).all P m := ⟨fun _ q => (by cases q), fun _ q => (by cases q)⟩
theorem Er.all_bind {α β : Type} {x : Er α} {k : α -> Er β} {P : α -> Prop} {Q : β -> Prop} {m : Nat} (h : x.all P m) (hk : ∀ a, P a -> (k a).all Q m) : (x.bind k).all Q m := by
 cases x with
 | ok a => exact hk a (h.1 a rfl)
 | no f => exact Er.all_no (h.2 f rfl)
 | un => exact Er.all_un
theorem Er.all_must {α : Type} {b : Bool} {f : F} {k : Er α} {P : α -> Prop} {m : Nat} (hf : f.1 <= m) (hk : b = true -> k.all P m) : (must b f k).all P m := by
 cases b with
 | true => exact hk rfl
 | false => exact Er.all_no hf
structure RI (cl : Nat -> Nat) (s : ByteArray) (σ : Rd) : Prop where
 i : σ.i <= s.size
 n : σ.n <= 1024
 ll : σ.labels.length = σ.n
 sl : σ.spots.length = σ.n
 el : σ.ends.length = 2 * σ.weights.length
 wl : σ.weights.length <= 3072
 lp : ∀ l ∈ σ.labels, l.size <= 256 /\ ∀ c ∈ l.data.toList, prnt c.toNat = true
 sc : ∀ p ∈ σ.spots, cl p.1 = p.1 /\ cl p.2 = p.2
 wc : ∀ x ∈ σ.weights, cl x = x
 ids : ∀ p ∈ σ.ids, p.2 < σ.n
 ea : ∀ t ∈ σ.ends, t.at_ <= s.size
def LvI (σ : Rd) : Lv -> Prop
 | .node v _ _ _ => v < σ.n
 | _ => True
def TkI (σ : Rd) : Tk -> Prop
 | .id v => v < σ.n
 | .list l => LvI σ l
 | _ => True
theorem RI.at {cl : Nat -> Nat} {s : ByteArray} {σ : Rd} (h : RI cl s σ) {i : Nat} (hi : i <= s.size) : RI cl s { σ with i := i } := ⟨hi, h.n, h.ll, h.sl, h.el, h.wl, h.lp, h.sc, h.wc, h.ids, h.ea⟩
theorem TkI.at {σ : Rd} {x : Tk} (h : TkI σ x) (i : Nat) : TkI { σ with i := i } x := by
 cases x with
 | list l => cases l <;> exact h
 | _ => exact h
structure ClOK (cl : Nat -> Nat) : Prop where
 c : ∀ x, cl (cl x) = cl x
 z : cl 0 = 0
 o : cl one64 = one64
section
variable {cl : Nat -> Nat} {s : ByteArray} {rd : ByteArray -> Option (Nat × Nat)}
theorem key_all (hc : ClOK cl) {l : Lv} {t : Tok} {σ : Rd} (h : RI cl s σ) (hl : LvI σ l) (ht : t.at_ <= s.size) :
  (key l t σ).all (fun x => TkI x.2.2 x.1 /\ LvI x.2.2 x.2.1 /\ RI cl s x.2.2 /\ σ.n <= x.2.2.n /\ x.2.2.i = σ.i) s.size := by
 have ok0 : ∀ {x : Tk} {l : Lv}, TkI σ x -> LvI σ l -> (Er.ok (x, l, σ)).all (fun x => TkI x.2.2 x.1 /\ LvI x.2.2 x.2.1 /\ RI cl s x.2.2 /\ σ.n <= x.2.2.n /\ x.2.2.i = σ.i) s.size := fun a b => Er.all_ok ⟨a, b, h, Nat.le_refl _, rfl⟩
 cases l with
 | over => exact ok0 trivial trivial
 | top =>
  simp only [key]
  split
  ·exact Er.all_must ht fun _ => Er.all_ok ⟨trivial, trivial, ⟨h.i, h.n, h.ll, h.sl, h.el, h.wl, h.lp, h.sc, h.wc, h.ids, h.ea⟩, Nat.le_refl _, rfl⟩
  ·exact ok0 trivial trivial
 | graph d =>
  simp only [key]
  split
  ·exact Er.all_must ht fun _ => ok0 trivial trivial
  split
  ·refine Er.all_must ht fun hn => Er.all_ok ⟨?_, trivial, ?_, ?_, rfl⟩
   ·show σ.n < σ.n + 1
    omega
   ·have hn := of_decide_eq_true hn
    refine ⟨h.i, ?_, ?_, ?_, h.el, h.wl, ?_, ?_, h.wc, ?_, h.ea⟩
    ·show σ.n + 1 <= 1024; omega
    ·show (σ.labels ++ [noB]).length = σ.n + 1; simp [h.ll]
    ·show (σ.spots ++ [(0, 0)]).length = σ.n + 1; simp [h.sl]
    ·intro l hl
     have hl : l ∈ σ.labels ++ [noB] := hl
     rw [List.mem_append] at hl
     rcases hl with hl | hl
     ·exact h.lp l hl
     ·simp at hl; subst hl; exact ⟨by decide, fun c hc => absurd hc (by decide +revert)⟩
    ·intro p hp
     have hp : p ∈ σ.spots ++ [(0, 0)] := hp
     rw [List.mem_append] at hp
     rcases hp with hp | hp
     ·exact h.sc p hp
     ·simp at hp; subst hp; exact ⟨hc.z, hc.z⟩
    ·intro p hp
     have := h.ids p hp
     show p.2 < σ.n + 1
     omega
   ·show σ.n <= σ.n + 1; omega
  split
  ·refine Er.all_must ht fun hn => Er.all_ok ⟨trivial, trivial, ?_, Nat.le_refl _, rfl⟩
   have hn := of_decide_eq_true hn
   have he := h.el
   refine ⟨h.i, h.n, h.ll, h.sl, ?_, ?_, h.lp, h.sc, ?_, h.ids, ?_⟩
   ·show (σ.ends ++ [_, _]).length = 2 * (σ.weights ++ [_]).length
    simp; omega
   ·show (σ.weights ++ [_]).length <= 3072
    simp; omega
   ·intro x hx
    have hx : x ∈ σ.weights ++ [one64] := hx
    rw [List.mem_append] at hx
    rcases hx with hx | hx
    ·exact h.wc x hx
    ·simp at hx; subst hx; exact hc.o
   ·intro t ht
    have ht : t ∈ σ.ends ++ [⟨0, 0, noB, 0⟩, ⟨0, 0, noB, 0⟩] := ht
    rw [List.mem_append] at ht
    rcases ht with ht | ht
    ·exact h.ea t ht
    ·simp at ht; subst ht; exact Nat.zero_le _
  ·exact ok0 trivial trivial
 | node v a b c =>
  simp only [key]
  split
  ·exact Er.all_must ht fun _ => ok0 hl hl
  split
  ·exact Er.all_must ht fun _ => ok0 trivial hl
  split
  ·exact Er.all_must ht fun _ => ok0 trivial hl
  ·exact ok0 trivial hl
 | spot v a b =>
  simp only [key]
  split
  ·exact Er.all_must ht fun _ => ok0 trivial trivial
  split
  ·exact Er.all_must ht fun _ => ok0 trivial trivial
  ·exact ok0 trivial trivial
 | edge k a b c =>
  simp only [key]
  split
  ·exact Er.all_must ht fun _ => ok0 trivial trivial
  split
  ·exact Er.all_must ht fun _ => ok0 trivial trivial
  split
  ·exact Er.all_must ht fun _ => ok0 trivial trivial
  ·exact ok0 trivial trivial
theorem valued_all {t : Tok} (h : t.at_ <= s.size) : (valued rd t).all (fun v => v.at_ <= s.size) s.size := by
 unfold valued
 split
 ·exact Er.all_no h
 split
 ·split
  ·split
   ·exact Er.all_ok h
   ·exact Er.all_un
  ·exact Er.all_no h
 split
 ·split
  ·exact Er.all_ok h
  ·exact Er.all_no h
  ·exact Er.all_un
 ·exact Er.all_ok h
theorem take_all (hc : ClOK cl) {x : Tk} {v : Tok} {σ : Rd} (h : RI cl s σ) (hx : TkI σ x) (ht : v.at_ <= s.size) : (take cl x v σ).all (fun r => RI cl s r /\ σ.n <= r.n /\ r.i = σ.i) s.size := by
 cases x with
 | none => exact Er.all_ok ⟨h, Nat.le_refl _, rfl⟩
 | list l => exact Er.all_ok ⟨h, Nat.le_refl _, rfl⟩
 | dir => exact Er.all_must ht fun _ => Er.all_ok ⟨⟨h.i, h.n, h.ll, h.sl, h.el, h.wl, h.lp, h.sc, h.wc, h.ids, h.ea⟩, Nat.le_refl _, rfl⟩
 | id k =>
  simp only [take]
  split
  ·refine Er.all_must ht fun _ => Er.all_ok ⟨⟨h.i, h.n, h.ll, h.sl, h.el, h.wl, h.lp, h.sc, h.wc, ?_, h.ea⟩, Nat.le_refl _, rfl⟩
   intro p hp
   have hp : p ∈ σ.ids ++ [_] := hp
   rw [List.mem_append] at hp
   rcases hp with hp | hp
   ·exact h.ids p hp
   ·simp at hp; subst hp; exact hx
  ·exact Er.all_no ht
 | label k =>
  simp only [take]
  refine Er.all_must ht fun h1 => Er.all_must ht fun h2 => Er.all_ok ⟨⟨h.i, h.n, ?_, h.sl, h.el, h.wl, ?_, h.sc, h.wc, h.ids, h.ea⟩, Nat.le_refl _, rfl⟩
  ·show (σ.labels.set k v.says).length = σ.n
   rw [List.length_set]; exact h.ll
  ·intro l hl
   rcases List.mem_or_eq_of_mem_set hl with hl | rfl
   ·exact h.lp l hl
   ·exact ⟨of_decide_eq_true h1, List.all_eq_true.1 h2⟩
 | spot k y =>
  refine Er.all_ok ⟨⟨h.i, h.n, h.ll, ?_, h.el, h.wl, h.lp, ?_, h.wc, h.ids, h.ea⟩, Nat.le_refl _, rfl⟩
  ·show (σ.spots.modify k _).length = σ.n
   rw [List.length_modify]; exact h.sl
  ·intro p hp
   obtain ⟨j, hj, hp⟩ := List.getElem_of_mem hp
   have hp : (σ.spots.modify k fun p => if y = true then (p.1, cl v.num) else (cl v.num, p.2))[j]? = some p := by rw [<- hp]; exact List.getElem?_eq_getElem hj
   rw [List.getElem?_modify] at hp
   cases q : σ.spots[j]? with
   | none => rw [q] at hp; simp at hp
   | some p0 =>
    have h0 := h.sc p0 (List.mem_of_getElem? q)
    rw [q] at hp
    obtain rfl := Option.some.inj hp
    split
    ·split
     ·exact ⟨h0.1, hc.c _⟩
     ·exact ⟨hc.c _, h0.2⟩
    ·exact h0
 | fin k =>
  simp only [take]
  split
  ·refine Er.all_ok ⟨⟨h.i, h.n, h.ll, h.sl, ?_, h.wl, h.lp, h.sc, h.wc, h.ids, ?_⟩, Nat.le_refl _, rfl⟩
   ·show (σ.ends.set k v).length = _
    rw [List.length_set]; exact h.el
   ·intro t ht2
    rcases List.mem_or_eq_of_mem_set ht2 with q | rfl
    ·exact h.ea t q
    ·exact ht
  ·exact Er.all_no ht
 | weight k =>
  refine Er.all_ok ⟨⟨h.i, h.n, h.ll, h.sl, ?_, ?_, h.lp, h.sc, ?_, h.ids, h.ea⟩, Nat.le_refl _, rfl⟩
  ·show σ.ends.length = 2 * (σ.weights.set _ _).length
   rw [List.length_set]; exact h.el
  ·show (σ.weights.set _ _).length <= 3072
   rw [List.length_set]; exact h.wl
  ·intro x hx
   rcases List.mem_or_eq_of_mem_set hx with hx | rfl
   ·exact h.wc x hx
   ·exact hc.c _
theorem behind_all {l : Lv} {e : Nat} {σ : Rd} (h : RI cl s σ) (he : e <= s.size) : (behind l e σ).all (fun r => r = σ) s.size := by
 cases l <;> simp only [behind] <;> first | exact Er.all_ok rfl | exact Er.all_must he fun _ => Er.all_ok rfl
theorem LvI.mono {l : Lv} {σ σ' : Rd} (h : LvI σ l) (hn : σ.n <= σ'.n) : LvI σ' l := by
 cases l <;> simp only [LvI] at h ⊢
 omega
theorem value_all (hc : ClOK cl) {L : Lv -> Nat -> Rd -> Er (Nat × Lv × Rd)} (hL : ∀ l d σ, RI cl s σ -> LvI σ l -> (L l d σ).all (fun x => x.1 <= s.size /\ LvI x.2.2 x.2.1 /\ RI cl s x.2.2 /\ σ.n <= x.2.2.n /\ σ.i <= x.2.2.i) s.size)
  {x : Tk} {d : Nat} {σ : Rd} (h : RI cl s σ) (hx : TkI σ x) : (value s rd cl L x d σ).all (fun r => RI cl s r /\ σ.n <= r.n /\ σ.i <= r.i) s.size := by
 unfold value
 obtain ⟨n1, n2, n3⟩ := next_le h.i
 refine Er.all_bind (P := fun y => σ.i <= y.2 /\ y.2 <= s.size /\ y.1.at_ <= s.size) ⟨fun a q => ?_, n2⟩ ?_
 ·obtain ⟨t, j⟩ := a
  have := n1 t j q
  exact ⟨this.1, this.2.1, this.2.2.1⟩
 rintro ⟨v0, i⟩ ⟨q1, q2, q3⟩
 simp only at q1 q2 q3
 refine Er.all_bind (valued_all q3) fun v q4 => ?_
 refine Er.all_must q4 fun _ => Er.all_must q4 fun _ => ?_
 have h' := h.at q2
 split
 ·split
  ·rename_i l _
   refine Er.all_bind (hL l (d + 1) { σ with i := i } h' hx) ?_
   rintro ⟨e, l', r2⟩ ⟨p1, p2, p3, p4, p5⟩
   refine ⟨fun a q => ?_, (behind_all p3 p1).2⟩
   have := (behind_all p3 p1).1 a q
   subst this
   simp only at p3 p4 p5
   exact ⟨p3, p4, by omega⟩
  ·refine Er.all_bind (hL .over (d + 1) { σ with i := i } h' trivial) ?_
   rintro ⟨e, l', r2⟩ ⟨p1, p2, p3, p4, p5⟩
   simp only at p3 p4 p5
   exact Er.all_ok ⟨p3, p4, by omega⟩
 ·have hx' := hx.at i
  obtain ⟨a1, a2⟩ := take_all (v := v) hc h' hx' q4
  exact ⟨fun a q => let ⟨b1, b2, b3⟩ := a1 a q; ⟨b1, b2, by rw [b3]; exact q1⟩, a2⟩
theorem list_all (hc : ClOK cl) : ∀ (n : Nat) (l : Lv) (d : Nat) (σ : Rd), RI cl s σ -> LvI σ l -> (list s rd cl n l d σ).all (fun x => x.1 <= s.size /\ LvI x.2.2 x.2.1 /\ RI cl s x.2.2 /\ σ.n <= x.2.2.n /\ σ.i <= x.2.2.i) s.size := by
 intro n
 induction n with
 | zero => intro l d σ h hl; exact Er.all_un
 | succ n ih =>
  intro l d σ h hl
  rw [list]
  obtain ⟨n1, n2, n3⟩ := next_le h.i
  refine Er.all_bind (P := fun y => σ.i <= y.2 /\ y.2 <= s.size /\ y.1.at_ <= s.size) ⟨fun a q => ?_, n2⟩ ?_
  ·obtain ⟨t, j⟩ := a
   have := n1 t j q
   exact ⟨this.1, this.2.1, this.2.2.1⟩
  rintro ⟨t, i⟩ ⟨q1, q2, q3⟩
  simp only at q1 q2 q3 ⊢
  have h' := h.at q2
  have hl' : LvI { σ with i := i } l := by cases l <;> exact hl
  split
  ·exact Er.all_ok ⟨q3, hl', h', Nat.le_refl _, q1⟩
  ·refine Er.all_must q3 fun _ => Er.all_bind (key_all hc h' hl' q3) ?_
   rintro ⟨x, l', r1⟩ ⟨p1, p2, p3, p4, p5⟩
   simp only at p1 p2 p3 p4 p5 ⊢
   refine Er.all_bind (value_all hc (fun l d σ => ih l d σ) p3 p1) ?_
   rintro r2 ⟨b1, b2, b3⟩
   obtain ⟨a1, a2⟩ := ih l' d r2 b1 (p2.mono b2)
   refine ⟨fun a q => ?_, a2⟩
   obtain ⟨c1, c2, c3, c4, c5⟩ := a1 a q
   exact ⟨c1, c2, c3, by omega, by omega⟩
theorem start_ri : RI cl s start := ⟨Nat.zero_le _, by decide, rfl, rfl, rfl, by decide, by simp [start], by simp [start], by simp [start], by simp [start], by simp [start]⟩
end
end Go.Proofs.YtlflalecmhgmjaaGreatDoor.G
namespace Go.Proofs.YtlflalecmhgmjaaGreatDoor.G
section
variable {cl : Nat -> Nat} {s : ByteArray} {rd : ByteArray -> Option (Nat × Nat)}
end
end Go.Proofs.YtlflalecmhgmjaaGreatDoor.G
namespace Go.Proofs.YtlflalecmhgmjaaGreatDoor.N
open Go.Proofs.YtlflalecmhgmjaaGreatDoor
open Go.X
set_option maxRecDepth 100000
def tokV (t : G.Tok) : Value := .agg #[.int .i64 (t.kind : Int), .int .i64 (t.at_ : Int), .string t.says, .float .f64 t.num]
def flt (f : G.F) : Value := .iface 88 (.agg #[.int .i64 (f.1 : Int), .int .i64 (f.2 : Int)])
theorem callFail {a e : Nat} {h : Heap} {H : List Nat} {K E : Value -> Heap -> Prop} (k : E (flt (a, e)) h) : callP Tryz.prog 109 #[.int .i64 (a : Int), .int .i64 (e : Int)] h H K E := by
 refine callP_of (R := fun _ _ => False) (Rp := fun v h' => v = flt (a, e) /\ h' = h) [] ?_ (by simp) (fun _ _ r => r.elim) (fun _ _ r => Fr.of_eq r.2) (fun _ _ r => r.elim) fun v h' r => by obtain ⟨rfl, rfl⟩ := r; exact k
 apply calls109
 exact ⟨rfl, rfl⟩
theorem callMust {b : Bool} {a e : Nat} {h : Heap} {H : List Nat} {K E : Value -> Heap -> Prop} (k : b = true -> K (.tuple #[]) h) (k2 : b = false -> E (flt (a, e)) h) : callP Tryz.prog 58 #[.bool b, .int .i64 (a : Int), .int .i64 (e : Int)] h H K E := by
 refine callP_of (R := fun v h' => b = true /\ v = .tuple #[] /\ h' = h) (Rp := fun v h' => b = false /\ v = flt (a, e) /\ h' = h) [] ?_ (by simp) (fun _ _ r => Fr.of_eq r.2.2) (fun _ _ r => Fr.of_eq r.2.2) (fun v h' r => by obtain ⟨q, rfl, rfl⟩ := r; exact k q) fun v h' r => by obtain ⟨q, rfl, rfl⟩ := r; exact k2 q
 apply calls58
 unfold S58
 refine ⟨fun _ h' => b = true /\ h' = h, cnd_not (fun q => ?_) fun q => ⟨q, rfl⟩, fun h' q => ⟨q.1, rfl, q.2⟩⟩
 exact callFail ⟨q, rfl, rfl⟩
theorem bool_dec {p : Prop} [Decidable p] {b : Bool} (h : b = true ↔ p) : b = decide p := by
 cases b <;> simp_all
section
variable {n : Nat} {h : Heap} {H : List Nat} {K : Value -> Heap -> Prop}
theorem call_fn {f : Nat} {r : Bool} (c : CallsH Tryz.prog f #[.int .u8 (n : Int)] h fun v h' => v = .bool r /\ h' = h) (k : K (.bool r) h) : callX Tryz.prog f #[.int .u8 (n : Int)] h H K :=
 callX_ofR [] c (by simp) (fun _ _ r => Fr.of_eq r.2) fun v h' r => by obtain ⟨rfl, rfl⟩ := r; exact k
theorem ok203 : CallsH Tryz.prog 203 #[.int .u8 (n : Int)] h fun v h' => v = .bool (G.lettr n) /\ h' = h := by
 apply calls203
 unfold S203
 have fin : ∀ b : Bool, (b = true ↔ 97 <= n /\ n <= 122 \/ 65 <= n /\ n <= 90) -> Value.bool b = .bool (G.lettr n) /\ h = h := fun b e => ⟨by rw [bool_dec e]; rfl, rfl⟩
 refine cnd_dec (fun h1 => cnd_dec (fun h2 => fin _ ?_) fun h2 => cnd_dec (fun h3 => fin _ ?_) fun h3 => fin _ ?_) fun h1 => cnd_dec (fun h3 => fin _ ?_) fun h3 => fin _ ?_
 all_goals (simp; try omega)
theorem ok206 : CallsH Tryz.prog 206 #[.int .u8 (n : Int)] h fun v h' => v = .bool (G.digt n) /\ h' = h := by
 apply calls206
 unfold S206
 have fin : ∀ b : Bool, (b = true ↔ 48 <= n /\ n <= 57) -> Value.bool b = .bool (G.digt n) /\ h = h := fun b e => ⟨by rw [bool_dec e]; rfl, rfl⟩
 refine cnd_dec (fun h1 => fin _ ?_) fun h1 => fin _ ?_
 all_goals (simp; try omega)
theorem ok114 : CallsH Tryz.prog 114 #[.int .u8 (n : Int)] h fun v h' => v = .bool (G.prnt n) /\ h' = h := by
 apply calls114
 unfold S114
 have fin : ∀ b : Bool, (b = true ↔ 32 <= n /\ n <= 126) -> Value.bool b = .bool (G.prnt n) /\ h = h := fun b e => ⟨by rw [bool_dec e]; rfl, rfl⟩
 refine cnd_dec (fun h1 => fin _ ?_) fun h1 => fin _ ?_
 all_goals (simp; try omega)
theorem ok258 : CallsH Tryz.prog 258 #[.int .u8 (n : Int)] h fun v h' => v = .bool (G.blnk n) /\ h' = h := by
 apply calls258
 unfold S258
 have fin : ∀ b : Bool, (b = true ↔ n = 32 \/ n = 9 \/ n = 10 \/ n = 13) -> Value.bool b = .bool (G.blnk n) /\ h = h := fun b e => ⟨by rw [bool_dec e]; rfl, rfl⟩
 refine cnd_eq (fun h1 => fin _ ?_) fun h1 => cnd_eq (fun h2 => fin _ ?_) fun h2 => cnd_eq (fun h3 => fin _ ?_) fun h3 => fin _ ?_
 all_goals (simp; try omega)
theorem ok205 : CallsH Tryz.prog 205 #[.int .u8 (n : Int)] h fun v h' => v = .bool (G.wordB n) /\ h' = h := by
 apply calls205
 unfold S205
 intro K
 refine call_fn ok203 ⟨_, rfl, cnd_b (fun q => ?_) fun q => call_fn ok206 ⟨_, rfl, cnd_b (fun q2 => ?_) fun q2 => ?_⟩⟩
 ·exact ⟨by simp [G.wordB, q], rfl⟩
 ·exact ⟨by simp [G.wordB, q2], rfl⟩
 ·refine ⟨?_, rfl⟩
  have : ((n : Int) == 95) = decide (n = 95) := bool_dec (by simp; omega)
  rw [this]
  simp [G.wordB, q, q2]
theorem ok207 : CallsH Tryz.prog 207 #[.int .u8 (n : Int)] h fun v h' => v = .bool (G.numbB n) /\ h' = h := by
 apply calls207
 unfold S207
 intro K
 refine call_fn ok203 ⟨_, rfl, cnd_b (fun q => ?_) fun q => call_fn ok206 ⟨_, rfl, cnd_b (fun q2 => ?_) fun q2 => cnd_eq (fun q3 => ?_) fun q3 => cnd_eq (fun q4 => ?_) fun q4 => ?_⟩⟩
 ·exact ⟨by simp [G.numbB, q], rfl⟩
 ·exact ⟨by simp [G.numbB, q2], rfl⟩
 ·have : n = 43 := by omega
  exact ⟨by simp [G.numbB, this], rfl⟩
 ·have : n = 45 := by omega
  exact ⟨by simp [G.numbB, this], rfl⟩
 ·refine ⟨?_, rfl⟩
  have : ((n : Int) == 46) = decide (n = 46) := bool_dec (by simp; omega)
  rw [this]
  have h3 : n ≠ 43 := by omega
  have h4 : n ≠ 45 := by omega
  simp [G.numbB, q, q2, h3, h4]
end
theorem wrN {j : Nat} (h : j < 4611686018427387904) : IntKind.i64.wrap ((j : Int) + (1 : Int)) = ((j + 1 : Nat) : Int) := by
 rw [wr (by omega) (by omega)]; omega
theorem get_at {s : ByteArray} {j : Nat} (h : j < s.size) : ∃ c : UInt8, s[j]? = some c /\ G.bt s j = c.toNat := by
 refine ⟨s[j], getElem?_pos s j h, ?_⟩
 unfold G.bt
 rw [getElem?_pos s j h]
def posM (s : ByteArray) (b : Nat) : List Value -> Heap -> Nat := fun _ h =>
 match hcell h b 1 with
 | some (.int _ x) => s.size - x.toNat
 | _ => 0
theorem posM_eq {s : ByteArray} {b i : Nat} {h : Heap} (L : Lx h b s i) (l : List Value) : posM s b l h = s.size - i := by
 unfold posM; rw [L.c1]; simp
theorem skp_here {s : ByteArray} {j : Nat} (h : ¬ j < s.size) : G.skp s j = j := by rw [G.skp, if_neg h]
theorem skp_stop {s : ByteArray} {j : Nat} (h1 : G.blnk (G.bt s j) = false) (h2 : G.bt s j ≠ 35) : G.skp s j = j := by
 rw [G.skp]
 split
 ·simp [h1, h2]
 ·rfl
theorem skp_blank {s : ByteArray} {j : Nat} (h : j < s.size) (h1 : G.blnk (G.bt s j) = true) : G.skp s j = G.skp s (j + 1) := by
 conv => lhs; rw [G.skp, if_pos h, if_pos h1]
theorem skp_note {s : ByteArray} {j : Nat} (h : j < s.size) (h1 : G.bt s j = 35) : G.skp s j = G.skp s (G.run (fun c => decide (c ≠ 10)) s j) := by
 conv => lhs; rw [G.skp, if_pos h, if_neg (by rw [h1]; decide), if_pos h1]
 conv => rhs; rw [G.run, if_pos ⟨h, by rw [h1]; rfl⟩]
theorem index_run {s : ByteArray} : ∀ {l : List UInt8} {j : Nat}, G.At s j l -> G.run (fun c => decide (c ≠ 10)) s j = (if Lib.indexByte l 10 < 0 then s.size else j + (Lib.indexByte l 10).toNat) /\ -1 <= Lib.indexByte l 10
 | [], j, a => by
  have := a.nil
  rw [G.run, if_neg (by omega)]
  simp [Lib.indexByte, this]
 | c :: l, j, a => by
  obtain ⟨h1, h2, h3⟩ := a.cons
  obtain ⟨e1, e2⟩ := index_run h3
  rw [G.run]
  by_cases q : c = 10
  ·subst q
   rw [if_neg (by rw [h2]; simp)]
   simp [Lib.indexByte]
  ·have hq : c.toNat ≠ 10 := fun e => q (UInt8.toNat_inj.1 e)
   rw [if_pos ⟨h1, by rw [h2]; simpa using hq⟩, e1]
   have e3 : Lib.indexByte (c :: l) 10 = if Lib.indexByte l 10 == -1 then -1 else Lib.indexByte l 10 + 1 := by
    simp [Lib.indexByte, q]
   rw [e3]
   by_cases q1 : Lib.indexByte l 10 = -1
   ·simp [q1]
   ·have : (Lib.indexByte l 10 == -1) = false := by simpa using q1
    rw [this]
    simp only [Bool.false_eq_true, if_false]
    rw [if_neg (by omega), if_neg (by omega)]
    omega
theorem at_here {s : ByteArray} {j : Nat} (h : j <= s.size) : G.At s j (s.extract j s.size).data.toList := by
 refine ⟨h, ?_⟩
 rw [ByteArray.data_extract, Array.toList_extract, List.extract_eq_take_drop, List.take_of_length_le]
 rw [List.length_drop]; exact Nat.le_refl _
theorem ok201 {h : Heap} {b i : Nat} {s : ByteArray} (L : Lx h b s i) (hi : i <= s.size) (hs : s.size <= 262144) : CallsH Tryz.prog 201 #[.pointer (some ⟨b, 0, none⟩)] h fun v h' => v = .tuple #[] /\ Mv b h h' (G.skp s i) := by
 apply calls201
 unfold S201
 refine ⟨fun _ h' => ∃ j, j <= s.size /\ G.skp s j = G.skp s i /\ Mv b h h' j, posM s b, ⟨i, hi, rfl, Mv.refl L⟩, ?_⟩
 rintro hv ⟨j, hj, hsk, M⟩
 have Lj := L.mv M
 refine ⟨b, 0, rfl, _, Lj.c1, b, 0, rfl, _, Lj.c0, cnd_dec (fun hlt => ?_) fun hlt => ?_⟩
 ·have hlt : j < s.size := by omega
  obtain ⟨c, hc, hb⟩ := get_at hlt
  refine ⟨b, 0, rfl, _, Lj.c0, b, 0, rfl, _, Lj.c1, by omega, by omega, c, by rw [Int.toNat_natCast]; exact hc, ?_⟩
  refine call_fn ok258 ⟨_, rfl, ?_⟩
  refine ⟨fun _ h' => ∃ k, j < k /\ k <= s.size /\ G.skp s k = G.skp s i /\ Mv b h h' k, ?_, ?_⟩
  ·refine cnd_b (fun q => ?_) fun q => cnd_eq (fun q2 => ?_) fun q2 => ?_
   ·refine ⟨b, 0, rfl, _, Lj.c1, b, 0, rfl, Lj.cell, Lj.fr, ?_⟩
    rw [wrN (by omega)]
    exact ⟨j + 1, by omega, by omega, by rw [<- skp_blank hlt (by rw [hb]; exact q)]; exact hsk, M.trans (Mv.to Lj (j + 1))⟩
   ·have h35 : G.bt s j = 35 := by rw [hb]; omega
    refine ⟨b, 0, rfl, _, Lj.c0, b, 0, rfl, _, Lj.c1, by omega, by omega, ?_⟩
    rw [Int.toNat_natCast]
    refine callX_same (ok256 (c := 10) (by decide)) ?_
    have e10 : UInt8.ofNat 10 = 10 := rfl
    rw [e10]
    obtain ⟨e1, e2⟩ := index_run (at_here (s := s) (j := j) hj)
    generalize Lib.indexByte (s.extract j s.size).data.toList 10 = n at e1 e2
    refine ⟨_, rfl, Fr.refl _ _, ?_⟩
    have hge := G.run_ge (fun c => decide (c ≠ 10)) s j
    have hle := G.run_le (fun c => decide (c ≠ 10)) s _ j rfl hj
    have hgt := G.run_lt (p := fun c => decide (c ≠ 10)) hlt (by rw [h35]; rfl)
    have hsk2 := skp_note hlt h35
    refine ⟨fun l h' => ∃ n2 : Int, l = [.int .i64 n2] /\ h' = hv /\ (j : Int) + n2 = (G.run (fun c => decide (c ≠ 10)) s j : Nat), ?_, ?_⟩
    ·refine cnd_dec (fun hneg => ?_) fun hneg => ?_
     ·rw [if_pos hneg] at e1
      refine ⟨b, 0, rfl, _, Lj.c0, b, 0, rfl, _, Lj.c1, ?_⟩
      rw [wr (by omega) (by omega)]
      exact ⟨_, rfl, rfl, by rw [e1]; omega⟩
     ·rw [if_neg hneg] at e1
      exact ⟨_, rfl, rfl, by rw [e1]; omega⟩
    ·rintro n2 hv5 ⟨_, e, rfl, hn⟩
     cases e
     refine ⟨b, 0, rfl, _, Lj.c1, b, 0, rfl, Lj.cell, Lj.fr, ?_⟩
     rw [wr (by omega) (by omega), hn]
     exact ⟨_, hgt, hle, by rw [<- hsk2]; exact hsk, M.trans (Mv.to Lj _)⟩
   ·refine ⟨rfl, ?_⟩
    rw [<- hsk, skp_stop (by rw [hb]; exact q) (by rw [hb]; omega)]
    exact M
  ·rintro hv7 ⟨k, h1, h2, h3, h4⟩
   refine ⟨⟨k, h2, h3, h4⟩, ?_⟩
   rw [posM_eq (L.mv h4), posM_eq Lj]
   omega
 ·refine ⟨rfl, ?_⟩
  rw [<- hsk, skp_here (by omega)]
  exact M
theorem ok204 {p : Nat -> Bool} {g : Nat} (hg : ∀ (n : Nat) (h : Heap), CallsH Tryz.prog g #[.int .u8 (n : Int)] h fun v h' => v = .bool (p n) /\ h' = h) (hm : mem fnsX g = true) {h : Heap} {b i : Nat} {s : ByteArray} (L : Lx h b s i) (hi : i <= s.size) (hs : s.size <= 262144) :
  CallsH Tryz.prog 204 #[.pointer (some ⟨b, 0, none⟩), .func (.func g) #[] #[]] h fun v h' => v = .string (s.extract i (G.run p s i)) /\ Mv b h h' (G.run p s i) := by
 apply calls204
 unfold S204
 refine ⟨b, 0, rfl, _, L.c1, ?_⟩
 intro K
 refine ⟨fun _ h' => ∃ j, i <= j /\ j <= s.size /\ G.run p s j = G.run p s i /\ Mv b h h' j, posM s b, ⟨i, Nat.le_refl _, hi, rfl, Mv.refl L⟩, ?_⟩
 rintro hv ⟨j, hij, hj, hsk, M⟩
 have Lj := L.mv M
 have fin : G.run p s j = j -> K hv := by
  intro e
  have ej : G.run p s i = j := by rw [<- hsk, e]
  refine ⟨b, 0, rfl, _, Lj.c0, b, 0, rfl, _, Lj.c1, by omega, by omega, by omega, by omega, ?_⟩
  rw [Int.toNat_natCast, Int.toNat_natCast]
  exact ⟨by rw [ej], by rw [ej]; exact M⟩
 refine ⟨b, 0, rfl, _, Lj.c1, b, 0, rfl, _, Lj.c0, cnd_dec (fun hlt => ?_) fun hlt => ?_⟩
 ·have hlt : j < s.size := by omega
  obtain ⟨c, hc, hb⟩ := get_at hlt
  refine ⟨b, 0, rfl, _, Lj.c0, b, 0, rfl, _, Lj.c1, by omega, by omega, c, by rw [Int.toNat_natCast]; exact hc, ?_⟩
  have hcall : ∀ {K : Value -> Heap -> Prop}, K (.bool (p c.toNat)) hv -> callV Tryz.prog fnsX [] none (.func g) #[] #[] [.int .u8 ((UInt8.toNat c : Nat) : Int)] hv [] K := by
   intro K k
   unfold callV
   simp only [mem, hm]
   exact call_fn (hg c.toNat hv) k
  refine hcall ⟨_, rfl, Fr.refl _ _, cnd_b (fun q => ?_) fun q => ?_⟩
  ·refine ⟨b, 0, rfl, _, Lj.c1, b, 0, rfl, Lj.cell, Lj.fr, ?_⟩
   rw [wrN (by omega)]
   have M' := M.trans (Mv.to Lj (j + 1))
   refine ⟨⟨j + 1, by omega, by omega, ?_, M'⟩, ?_⟩
   ·rw [<- hsk]
    conv => rhs; rw [G.run, if_pos ⟨hlt, by rw [hb]; exact q⟩]
   ·rw [posM_eq (L.mv M'), posM_eq Lj]
    omega
  ·exact fin (by rw [G.run, if_neg (by rw [hb, q]; simp)])
 ·exact ⟨Fr.refl _ _, fin (by rw [G.run, if_neg (by omega)])⟩
end Go.Proofs.YtlflalecmhgmjaaGreatDoor.N
namespace Go.Proofs.YtlflalecmhgmjaaGreatDoor.N
open Go.Proofs.YtlflalecmhgmjaaGreatDoor
open Go.X
set_option maxRecDepth 100000
theorem u8w {x : Int} (h1 : 0 <= x) (h2 : x < 256) : IntKind.u8.wrap x = x := by rw [IntKind.wrap_u8']; omega
theorem preB_pref (t : ByteArray) (l : List UInt8) : G.preB t 0 l = Lib.hasPrefix t.data.toList l := by
 unfold G.preB Lib.hasPrefix
 rw [ByteArray.data_extract, Array.toList_extract, List.extract_eq_take_drop, List.drop_zero, Nat.zero_add, Nat.sub_zero]
 rw [Bool.eq_iff_iff]
 simp only [decide_eq_true_eq, List.isPrefixOf_iff_prefix]
 constructor
 ·intro e
  rw [<- e]
  exact List.take_prefix _ _
 ·intro h
  exact (List.prefix_iff_eq_take.1 h).symm
def partV (o : Option (Nat × Nat)) : Value :=
 match o with
 | some (c, n) => .tuple #[.int .u8 (c : Int), .int .i64 (n : Int)]
 | none => .tuple #[.int .u8 0, .int .i64 0]
def nm5 : List (List UInt8) := [G.amp, G.quot, G.ltB, G.gtB, G.apos]
def nb5 : List UInt8 := [38, 34, 60, 62, 39]
theorem bt_dig {t : ByteArray} {i : Nat} (h : G.digt (G.bt t i) = true) : i < t.size := G.bt_lt (by intro e; rw [e] at h; revert h; decide)
theorem ok259 {t : ByteArray} (ht : t.size <= 262144) {h : Heap} : CallsH Tryz.prog 259 #[.string t] h fun v h' => v = partV (G.part t 0) /\ Fr [] h h' := by
 apply calls259
 unfold S259
 intro hv
 have hfr : Fr [] h hv := Fr.push h _
 have hblk : hv[h.size]? = some (.cells #[.string ⟨#[38, 97, 109, 112, 59]⟩, .string ⟨#[38, 113, 117, 111, 116, 59]⟩, .string ⟨#[38, 108, 116, 59]⟩, .string ⟨#[38, 103, 116, 59]⟩, .string ⟨#[38, 97, 112, 111, 115, 59]⟩] 9) := blk_push_new
 clear_value hv
 refine ⟨fun l h' => ∃ n : Nat, l = [.int .i64 (n : Int)] /\ n <= 5 /\ h' = hv /\ ∀ k x, k < n -> nm5[k]? = some x -> G.preB t 0 x = false, mI 5, ⟨0, rfl, by decide, rfl, fun k x hk => by omega⟩, ?_⟩
 rintro _ hv2 ⟨n, e, hn, rfl, hno⟩
 cases e
 refine cnd_dec (fun hlt => ?_) fun hlt => ?_
 ·have hn5 : n < 5 := by omega
  obtain ⟨x, hx, c, hc, hcell, hbyte, hpart⟩ : ∃ x : List UInt8, nm5[n]? = some x /\ ∃ c : UInt8, nb5[n]? = some c /\ hcell hv2 h.size (0 + (Int.toNat (n : Int)) * 1) = some (.string ⟨x.toArray⟩) /\ (⟨#[38, 34, 60, 62, 39]⟩ : ByteArray)[Int.toNat (n : Int)]? = some c /\ (G.preB t 0 x = true -> G.part t 0 = some (c.toNat, x.length)) := by
   have q : ∀ k v, (#[.string ⟨#[38, 97, 109, 112, 59]⟩, .string ⟨#[38, 113, 117, 111, 116, 59]⟩, .string ⟨#[38, 108, 116, 59]⟩, .string ⟨#[38, 103, 116, 59]⟩, .string ⟨#[38, 97, 112, 111, 115, 59]⟩] : Array Value)[k]? = some v -> hcell hv2 h.size k = some v := fun k v q => by rw [hcell_of hblk]; exact q
   have no : ∀ k x, k < n -> nm5[k]? = some x -> ¬ G.preB t 0 x = true := fun k x a b => by rw [hno k x a b]; simp
   match n, hn5, no with
   | 0, _, no => exact ⟨G.amp, rfl, 38, rfl, q 0 _ rfl, rfl, fun p => by unfold G.part; rw [if_pos p]; rfl⟩
   | 1, _, no => exact ⟨G.quot, rfl, 34, rfl, q 1 _ rfl, rfl, fun p => by unfold G.part; rw [if_neg (no 0 _ (by decide) rfl), if_pos p]; rfl⟩
   | 2, _, no => exact ⟨G.ltB, rfl, 60, rfl, q 2 _ rfl, rfl, fun p => by unfold G.part; rw [if_neg (no 0 _ (by decide) rfl), if_neg (no 1 _ (by decide) rfl), if_pos p]; rfl⟩
   | 3, _, no => exact ⟨G.gtB, rfl, 62, rfl, q 3 _ rfl, rfl, fun p => by unfold G.part; rw [if_neg (no 0 _ (by decide) rfl), if_neg (no 1 _ (by decide) rfl), if_neg (no 2 _ (by decide) rfl), if_pos p]; rfl⟩
   | 4, _, no => exact ⟨G.apos, rfl, 39, rfl, q 4 _ rfl, rfl, fun p => by unfold G.part; rw [if_neg (no 0 _ (by decide) rfl), if_neg (no 1 _ (by decide) rfl), if_neg (no 2 _ (by decide) rfl), if_neg (no 3 _ (by decide) rfl), if_pos p]; rfl⟩
  refine ⟨h.size, 0, rfl, by omega, by omega, _, hcell, ?_⟩
  refine callX_same ok130 ?_
  rw [<- preB_pref]
  refine ⟨_, rfl, cnd_b (fun p => ?_) fun p => ?_⟩
  ·refine ⟨by omega, by show (n : Int) < ((5 : Nat) : Int); omega, c, hbyte, ?_, hfr⟩
   rw [hpart p]
   rfl
  ·rw [wr (x := (n : Int) + 1) (by omega) (by omega)]
   refine ⟨⟨n + 1, by simp, by omega, rfl, fun k y hk hy => ?_⟩, by simp only [mI]; omega⟩
   by_cases q : k = n
   ·subst q; rw [hx] at hy; cases hy; exact p
   ·exact hno k y (by omega) hy
 ·obtain rfl : n = 5 := by omega
  have np : ∀ k x, k < 5 -> nm5[k]? = some x -> ¬ G.preB t 0 x = true := fun k x a b => by rw [hno k x a b]; simp
  have hp : G.part t 0 = (if G.preB t 0 [38, 35] = false then none else match G.digs t 3 0 (0 + 2) with
    | (n, k) => if k = 0 + 2 \/ G.bt t k ≠ 59 \/ G.prnt n = false then none else some (n, k + 1 - 0)) := by
   unfold G.part
   rw [if_neg (np 0 _ (by decide) rfl), if_neg (np 1 _ (by decide) rfl), if_neg (np 2 _ (by decide) rfl), if_neg (np 3 _ (by decide) rfl), if_neg (np 4 _ (by decide) rfl)]
  refine callX_same ok130 ?_
  rw [<- preB_pref]
  refine ⟨_, rfl, cnd_not (fun p => ?_) fun p => ?_⟩
  ·rw [hp, if_pos p]
   exact ⟨rfl, hfr⟩
  ·rw [if_neg (by rw [p]; simp)] at hp
   intro K2
   have fin : ∀ m k : Nat, G.digs t 3 0 2 = (m, k) -> 2 <= k -> k <= 5 -> k <= t.size -> m < 1000 -> K2 (m : Int) (k : Int) hv2 := by
    intro m k e k2 k5 ks m3
    rw [show (0 + 2) = 2 from rfl, e] at hp
    simp only [Nat.sub_zero] at hp
    have no : (k = 2 \/ G.bt t k ≠ 59 \/ G.prnt m = false) -> Value.tuple #[Value.int IntKind.u8 0, Value.int IntKind.i64 0] = partV (G.part t 0) /\ Fr [] h hv2 := fun q => by rw [if_pos q] at hp; exact ⟨by rw [hp]; rfl, hfr⟩
    refine cnd_eq (fun q => no (.inl (by omega))) fun q => cnd_eq (fun q2 => ?_) fun q2 => ?_
    ·refine no (.inr (.inl ?_))
     have : ¬ k < t.size := by omega
     unfold G.bt
     rw [getElem?_neg t k this]
     decide
    ·have hk : k < t.size := by omega
     obtain ⟨c, hc, hb⟩ := get_at hk
     refine ⟨by omega, by omega, c, by rw [Int.toNat_natCast]; exact hc, cnd_ne (fun q3 => no (.inr (.inl (by rw [hb]; omega)))) fun q3 => cnd_dec (fun q4 => ?_) fun q4 => ?_⟩
     ·refine no (.inr (.inr ?_))
      simp [G.prnt]; omega
     ·rw [u8w (x := (m : Int)) (by omega) (by omega)]
      refine call_fn ok114 ⟨_, rfl, cnd_not (fun q5 => ?_) fun q5 => ?_⟩
      ·have := no (.inr (.inr q5))
       exact this
      ·rw [wrN (by omega)]
       rw [if_neg (by rw [hb, q5]; simp; omega)] at hp
       exact ⟨by rw [hp]; rfl, hfr⟩
   refine ⟨fun l h' => ∃ r m k : Nat, l = [.int .i64 (m : Int), .int .i64 (k : Int)] /\ k + r = 5 /\ 2 <= k /\ k <= t.size /\ G.digs t 3 0 2 = G.digs t r m k /\ m < 10 ^ (k - 2) /\ h' = hv2, fun l _ => (match l with | [_, .int _ x] => ((5 : Int) - x).toNat | _ => 0), ⟨3, 0, 2, rfl, rfl, by decide, ?_, rfl, by decide, rfl⟩, ?_⟩
   ·rcases G.preB_lt p with q | q
    ·simpa using q
    ·cases q
   rintro _ _ hv5 ⟨r, m, k, e, hr, k2, ks, hd, hm, rfl⟩
   cases e
   have m3 : m < 1000 := by
    have : 10 ^ (k - 2) <= 10 ^ 3 := Nat.pow_le_pow_right (by decide) (by omega)
    omega
   intro K
   have stop : G.digs t r m k = (m, k) -> K2 (m : Int) (k : Int) hv5 := fun q => fin m k (hd.trans q) k2 (by omega) ks m3
   refine cnd_dec (fun q1 => cnd_dec (fun q2 => ?_) fun q2 => ?_) fun q1 => ?_
   ·obtain ⟨c, hc, hb⟩ := get_at (show k < t.size by omega)
    refine ⟨by omega, by omega, c, by rw [Int.toNat_natCast]; exact hc, ?_⟩
    obtain ⟨r', rfl⟩ : ∃ r', r = r' + 1 := ⟨r - 1, by omega⟩
    refine call_fn ok206 ⟨_, rfl, cnd_b (fun q3 => ?_) fun q3 => ?_⟩
    ·have hdg : 48 <= c.toNat /\ c.toNat <= 57 := by simpa [G.digt] using q3
     refine ⟨by omega, by omega, c, by rw [Int.toNat_natCast]; exact hc, ?_⟩
     have e1 : IntKind.u8.wrap (((UInt8.toNat c : Nat) : Int) - (48 : Int)) = ((c.toNat - 48 : Nat) : Int) := by rw [u8w (by omega) (by omega)]; omega
     rw [e1, wr (x := ((c.toNat - 48 : Nat) : Int)) (by omega) (by omega), wr (x := (10 : Int) * (m : Int)) (by omega) (by omega), wr (x := (10 : Int) * (m : Int) + ((c.toNat - 48 : Nat) : Int)) (by omega) (by omega), wrN (by omega)]
     refine ⟨⟨r', 10 * m + (c.toNat - 48), k + 1, by simp, by omega, by omega, by omega, ?_, ?_, rfl⟩, by simp only []; omega⟩
     ·rw [hd, G.digs, if_pos (by rw [hb]; exact q3), hb]
     ·rw [show k + 1 - 2 = (k - 2) + 1 by omega, Nat.pow_succ]; omega
    ·exact stop (by rw [G.digs, if_neg (by rw [hb, q3]; simp)])
   ·obtain rfl : r = 0 := by omega
    exact stop rfl
   ·refine stop ?_
    cases r with
    | zero => rfl
    | succ r =>
     rw [G.digs, if_neg]
     intro q
     have := bt_dig q
     omega
end Go.Proofs.YtlflalecmhgmjaaGreatDoor.N
