/- Loops and places where ways meet: what is carried through them, as variables. Conditions: none. -/
import Derived.Test.YtlflalecmhgmjaaGreatDoorXReg
import Derived.Test.YtlflalecmhgmjaaGreatDoorXDet3
set_option linter.unusedVariables false
set_option linter.unusedSimpArgs false
namespace Go.X
structure LD where
 keepT : List Nat
 varT : List Nat
 keepP : List Nat
 varP : List Nat
def shA (x : AVal) : Option Sh :=
 match x with
 | .val v => some (shOf v)
 | .lit _ => some .bool
 | .ptr _ _ => some .ptr
 | .sl _ _ _ _ => some .slice
 | _ => none
def shIs (s : Sh) (v : Value) (K : Prop) : Prop :=
 match s, v with
 | .int k, .int k' _ => kindEq k k' K
 | .bool, .bool _ => K
 | .slice, .slice _ _ _ => K
 | .ptr, .pointer _ => K
 | .float k, .float k' _ => fkindEq k k' K
 | .str, .string _ => K
 | .func, .func _ _ _ => K
 | .ifc, .nilIface => K
 | .ifc, .iface _ _ => K
 | .map, .map _ => K
 | _, _ => False
theorem shIs_elim {s : Sh} {v : Value} {K : Prop} (h : shIs s v K) : (∀ L : Value -> Prop, s.all L -> L v) /\ K := by
 cases s <;> cases v <;> simp only [shIs] at h <;> first
  | exact h.elim
  | (have h0 := kindEq_elim h; obtain ⟨rfl, h1⟩ := h0; exact ⟨fun L hL => hL _, h1⟩)
  | (have h0 := fkindEq_elim h; obtain ⟨rfl, h1⟩ := h0; exact ⟨fun L hL => hL _, h1⟩)
  | exact ⟨fun L hL => hL _, h⟩
  | exact ⟨fun L hL => hL _ _ _, h⟩
  | exact ⟨fun L hL => hL.1, h⟩
  | exact ⟨fun L hL => hL.2 _ _, h⟩
def locIn (ps : List Nat) (x : AVal) : Bool :=
 match x with
 | .loc s _ => mem ps s
 | .row s _ => mem ps s
 | _ => true
def keepFr (st : St) (ps : List Nat) : List Nat -> Option (List (Nat × AVal))
 | [] => some []
 | t :: r => match look st.fr t with
  | some x => (match locIn ps x with
   | true => (match keepFr st ps r with
    | some q => some ((t, x) :: q)
    | none => none)
   | false => none)
  | none => none
def keepLc (lc : List Priv) : List Nat -> Option (List Priv)
 | [] => some []
 | s :: r => match plook lc s with
  | some p => (match keepLc lc r with
   | some q => some (⟨s, p.blk, p.elem, p.cells⟩ :: q)
   | none => none)
  | none => none
def curT (st : St) : List Nat -> Option (List (Sh × Value))
 | [] => some []
 | t :: r => match look st.fr t with
  | some x => (match x.out with
   | some v => (match shA x with
    | some s => (match curT st r with
     | some q => some ((s, v) :: q)
     | none => none)
    | none => none)
   | none => none)
  | none => none
def curP (lc : List Priv) : List Nat -> Option (List (List (Sh × Value)))
 | [] => some []
 | s :: r => match plook lc s with
  | some p => (match curP lc r with
   | some q => some ((p.cells.map fun v => (shOf v, v)) :: q)
   | none => none)
  | none => none
def allV : List (Sh × Value) -> (List Value -> Prop) -> Prop
 | [], K => K []
 | (s, _) :: r, K => s.all fun v => allV r fun vs => K (v :: vs)
def allP : List (List (Sh × Value)) -> (List (List Value) -> Prop) -> Prop
 | [], K => K []
 | l :: r, K => allV l fun v => allP r fun vs => K (v :: vs)
def sameV : List (Sh × Value) -> List (Sh × Value) -> (List Value -> Prop) -> Prop
 | [], [], K => K []
 | (s, _) :: r, (_, v) :: q, K => shIs s v (sameV r q fun vs => K (v :: vs))
 | _, _, _ => False
def sameP : List (List (Sh × Value)) -> List (List (Sh × Value)) -> (List (List Value) -> Prop) -> Prop
 | [], [], K => K []
 | l :: r, m :: q, K => sameV l m fun v => sameP r q fun vs => K (v :: vs)
 | _, _, _ => False
def vals (l : List (Sh × Value)) : List Value := l.map (·.2)
def valsP (l : List (List (Sh × Value))) : List (List Value) := l.map vals
theorem sameV_elim : ∀ {l q : List (Sh × Value)} {K : List Value -> Prop}, sameV l q K -> K (vals q) /\ ∀ L : List Value -> Prop, allV l L -> L (vals q)
 | [], [], _, h => ⟨h, fun _ hL => hL⟩
 | (s, _) :: r, (_, v) :: q, K, h => by
  obtain ⟨h1, h2⟩ := shIs_elim h
  obtain ⟨h3, h4⟩ := sameV_elim h2
  exact ⟨h3, fun L hL => h4 _ (h1 _ hL)⟩
 | [], _ :: _, _, h => h.elim
 | _ :: _, [], _, h => h.elim
theorem sameP_elim : ∀ {l q : List (List (Sh × Value))} {K : List (List Value) -> Prop}, sameP l q K -> K (valsP q) /\ ∀ L : List (List Value) -> Prop, allP l L -> L (valsP q)
 | [], [], _, h => ⟨h, fun _ hL => hL⟩
 | l :: r, m :: q, K, h => by
  obtain ⟨h1, h2⟩ := sameV_elim h
  obtain ⟨h3, h4⟩ := sameP_elim h1
  exact ⟨h3, fun L hL => h4 _ (h2 _ hL)⟩
 | [], _ :: _, _, h => h.elim
 | _ :: _, [], _, h => h.elim
def putT : List Nat -> List Value -> List (Nat × AVal) -> List (Nat × AVal)
 | t :: r, v :: vs, fr => (t, .val v) :: putT r vs fr
 | _, _, fr => fr
def putP (lc : List Priv) : List Nat -> List (List Value) -> List Priv -> List Priv
 | s :: r, v :: vs, q => match plook lc s with
  | some p => ⟨s, p.blk, p.elem, v⟩ :: putP lc r vs q
  | none => q
 | _, _, q => q
def subs : List Nat -> List Nat -> Bool
 | [], _ => true
 | t :: r, l => match mem l t with
  | true => subs r l
  | false => false
def disj : List Nat -> List Nat -> Bool
 | [], _ => true
 | t :: r, l => match mem l t with
  | true => false
  | false => disj r l
def LD.ok (d : LD) (ro : RO) : Bool := subs ro.t d.keepT && subs ro.p d.keepP && subs ro.a (d.keepP ++ d.varP) && disj d.keepT d.varT && disj d.keepP d.varP
def LD.ro (d : LD) : RO := ⟨d.keepT, d.keepP, d.keepP ++ d.varP⟩
def mkSt (d : LD) (st : St) (kf : List (Nat × AVal)) (kl : List Priv) (v : List Value) (vp : List (List Value)) : St := ⟨putT d.varT v kf, putP st.lc d.varP vp kl⟩
def backV (d : LD) (sh : List (Sh × Value)) (shp : List (List (Sh × Value))) (st : St) (K : List Value -> List (List Value) -> Prop) : Prop :=
 match curT st d.varT with
 | some v1 => (match curP st.lc d.varP with
  | some v2 => sameV sh v1 fun v => sameP shp v2 fun vp => K v vp
  | none => False)
 | none => False
def headX (ro : RO) (d : LD) (st : St) (K : List (Nat × AVal) -> List Priv -> List (Sh × Value) -> List (List (Sh × Value)) -> Prop) : Prop :=
 match d.ok ro with
 | false => False
 | true => match keepFr st (d.keepP ++ d.varP) d.keepT with
  | none => False
  | some kf => match keepLc st.lc d.keepP with
   | none => False
   | some kl => match curT st d.varT with
    | none => False
    | some v1 => match curP st.lc d.varP with
     | none => False
     | some v2 => sameV v1 v1 fun _ => sameP v2 v2 fun _ => K kf kl v1 v2
def loopX (ro : RO) (d : LD) (st : St) (h : Heap) (body : RO -> St -> Heap -> (St -> Heap -> Prop) -> Prop) : Prop :=
 headX ro d st fun kf kl v1 v2 => ∃ (I : List Value -> Heap -> Prop) (μ : List Value -> Heap -> Nat), I (vals v1 ++ (valsP v2).flatten) h /\
  allV v1 fun v => allP v2 fun vp => ∀ h', I (v ++ vp.flatten) h' -> body d.ro (mkSt d st kf kl v vp) h' fun st'' h'' => backV d v1 v2 st'' fun u up => I (u ++ up.flatten) h'' /\ μ (u ++ up.flatten) h'' < μ (v ++ vp.flatten) h'
def joinX (ro : RO) (d : LD) (st : St) (ways : RO -> (St -> Heap -> Prop) -> Prop) (k : St -> Heap -> Prop) : Prop :=
 headX ro d st fun kf kl v1 v2 => ∃ J : List Value -> Heap -> Prop, ways d.ro (fun st'' h'' => backV d v1 v2 st'' fun u up => J (u ++ up.flatten) h'') /\
  allV v1 fun v => allP v2 fun vp => ∀ h', J (v ++ vp.flatten) h' -> k (mkSt d st kf kl v vp) h'
theorem mem_subs {l m : List Nat} (h : subs l m = true) {t : Nat} (ht : mem l t = true) : mem m t = true := by
 induction l with
 | nil => simp [mem] at ht
 | cons x r ih =>
  simp only [subs] at h
  cases hx : mem m x with
  | false => simp [hx] at h
  | true =>
   simp only [hx] at h
   simp only [mem] at ht
   cases hb : Nat.beq x t with
   | true => have := Nat.eq_of_beq_eq_true hb; subst this; exact hx
   | false => simp only [hb] at ht; exact ih h ht
theorem keepFr_look {st : St} {ps : List Nat} : ∀ {l : List Nat} {q : List (Nat × AVal)}, keepFr st ps l = some q -> ∀ t x, look q t = some x -> look st.fr t = some x /\ mem l t = true /\ locIn ps x = true
 | [], q, h => by simp [keepFr] at h; subst h; exact fun t x hx => by simp [look] at hx
 | t :: r, q, h => by
  unfold keepFr at h
  split at h
  ·rename_i x h1
   split at h
   ·rename_i hl
    split at h
    ·rename_i q' h2
     simp only [Option.some.injEq] at h
     subst h
     intro u y hy
     simp only [look] at hy
     cases hb : Nat.beq t u with
     | true =>
      have := Nat.eq_of_beq_eq_true hb
      subst this
      simp only [hb, Option.some.injEq] at hy
      subst hy
      exact ⟨h1, by simp [mem], hl⟩
     | false =>
      simp only [hb] at hy
      obtain ⟨k1, k2, k3⟩ := keepFr_look h2 u y hy
      exact ⟨k1, by simp [mem, hb, k2], k3⟩
    ·cases h
   ·cases h
  ·cases h
theorem keepLc_look {lc : List Priv} : ∀ {l : List Nat} {q : List Priv}, keepLc lc l = some q -> (∀ s p, plook q s = some p -> ∃ p', plook lc s = some p' /\ p.blk = p'.blk /\ p.elem = p'.elem /\ p.cells = p'.cells /\ mem l s = true) /\
  ∀ s, mem l s = true -> ∃ p p', plook q s = some p /\ plook lc s = some p' /\ p.blk = p'.blk /\ p.elem = p'.elem /\ p.cells = p'.cells
 | [], q, h => by simp [keepLc] at h; subst h; exact ⟨fun t x hx => by simp [plook] at hx, fun t ht => by simp [mem] at ht⟩
 | s :: r, q, h => by
  unfold keepLc at h
  cases h1 : plook lc s with
  | none => simp [h1] at h
  | some p =>
   cases h2 : keepLc lc r with
   | none => simp [h1, h2] at h
   | some q' =>
    simp only [h1, h2, Option.some.injEq] at h
    subst h
    obtain ⟨e1, e2⟩ := keepLc_look h2
    constructor
    ·intro u y hy
     simp only [plook] at hy
     cases hb : Nat.beq s u with
     | true =>
      have := Nat.eq_of_beq_eq_true hb
      subst this
      simp only [hb, Option.some.injEq] at hy
      subst hy
      exact ⟨p, h1, rfl, rfl, rfl, by simp [mem]⟩
     | false =>
      simp only [hb] at hy
      obtain ⟨p', k1, k2, k3, k4, k5⟩ := e1 u y hy
      exact ⟨p', k1, k2, k3, k4, by simp [mem, hb, k5]⟩
    ·intro u hu
     simp only [mem] at hu
     simp only [plook]
     cases hb : Nat.beq s u with
     | true => have := Nat.eq_of_beq_eq_true hb; subst this; exact ⟨_, p, rfl, h1, rfl, rfl, rfl⟩
     | false => simp only [hb] at hu; exact e2 u hu
theorem not_mem_disj {l m : List Nat} (h : disj l m = true) {t : Nat} (ht : mem l t = true) : mem m t = false := by
 induction l with
 | nil => simp [mem] at ht
 | cons x r ih =>
  simp only [disj] at h
  cases hx : mem m x with
  | true => simp [hx] at h
  | false =>
   simp only [hx] at h
   simp only [mem] at ht
   cases hb : Nat.beq x t with
   | true => have := Nat.eq_of_beq_eq_true hb; subst this; exact hx
   | false => simp only [hb] at ht; exact ih h ht
theorem mem_append (l m : List Nat) (t : Nat) : mem (l ++ m) t = (mem l t || mem m t) := by
 induction l with
 | nil => simp [mem]
 | cons x r ih =>
  simp only [List.cons_append, mem]
  cases Nat.beq x t with
  | true => simp
  | false => exact ih
theorem curT_look {st : St} : ∀ {l : List Nat} {q : List (Sh × Value)}, curT st l = some q -> ∀ {kf : List (Nat × AVal)} {t : Nat} {x : AVal}, look (putT l (vals q) kf) t = some x ->
  (mem l t = true /\ ∃ y v, look st.fr t = some y /\ y.out = some v /\ x = .val v) \/ (mem l t = false /\ look kf t = some x)
 | [], q, h, kf, t, x, hx => by simp [curT] at h; subst h; exact .inr ⟨rfl, by simpa [putT, vals] using hx⟩
 | s :: r, q, h, kf, t, x, hx => by
  unfold curT at h
  split at h
  ·rename_i y hy
   split at h
   ·rename_i v hv
    split at h
    ·rename_i sh hsh
     split at h
     ·rename_i q' hq'
      simp only [Option.some.injEq] at h
      subst h
      simp only [vals, List.map_cons, putT, look] at hx
      simp only [mem]
      cases hb : Nat.beq s t with
      | true =>
       have := Nat.eq_of_beq_eq_true hb
       subst this
       simp only [hb, Option.some.injEq] at hx
       exact .inl ⟨rfl, y, v, hy, hv, hx.symm⟩
      | false => simp only [hb] at hx; exact curT_look hq' hx
     ·cases h
    ·cases h
   ·cases h
  ·cases h
theorem putT_other {kf : List (Nat × AVal)} {t : Nat} : ∀ {l : List Nat} {q : List Value}, mem l t = false -> look (putT l q kf) t = look kf t
 | [], _, _ => by simp [putT]
 | s :: r, [], _ => by simp [putT]
 | s :: r, v :: q, h => by
  simp only [mem] at h
  simp only [putT, look]
  cases hb : Nat.beq s t with
  | true => simp [hb] at h
  | false => simp only [hb] at h; exact putT_other h
theorem putP_other {lc kl : List Priv} {s : Nat} : ∀ {l : List Nat} {q : List (List Value)}, mem l s = false -> (∀ t, mem l t = true -> ∃ p, plook lc t = some p) -> plook (putP lc l q kl) s = plook kl s
 | [], _, _, _ => by simp [putP]
 | t :: r, [], _, _ => by simp [putP]
 | t :: r, v :: q, h, hall => by
  simp only [mem] at h
  simp only [putP]
  obtain ⟨p, hp⟩ := hall t (by simp [mem])
  simp only [hp]
  cases hb : Nat.beq t s with
  | true => simp [hb] at h
  | false =>
   simp only [hb] at h
   simp only [plook, hb]
   exact putP_other h (fun u hu => hall u (by simp only [mem]; cases Nat.beq t u <;> simp_all))
theorem curP_all {lc : List Priv} : ∀ {l : List Nat} {q : List (List (Sh × Value))}, curP lc l = some q -> ∀ t, mem l t = true -> ∃ p, plook lc t = some p
 | [], _, _, t, ht => by simp [mem] at ht
 | s :: r, q, h, t, ht => by
  unfold curP at h
  split at h
  ·rename_i p hp
   split at h
   ·rename_i q' hq'
    simp only [mem] at ht
    cases hb : Nat.beq s t with
    | true => have := Nat.eq_of_beq_eq_true hb; subst this; exact ⟨p, hp⟩
    | false => simp only [hb] at ht; exact curP_all hq' t ht
   ·cases h
  ·cases h
theorem curP_look {lc lc' kl : List Priv} : ∀ {l : List Nat} {q : List (List (Sh × Value))}, curP lc' l = some q -> (∀ t, mem l t = true -> (plook lc' t).map Priv.place = (plook lc t).map Priv.place) ->
  ∀ {s : Nat} {p : Priv}, plook (putP lc l (valsP q) kl) s = some p ->
  (mem l s = true /\ ∃ p', plook lc' s = some p' /\ p.blk = p'.blk /\ p.elem = p'.elem /\ p.cells = p'.cells) \/ (mem l s = false /\ plook kl s = some p)
 | [], q, h, _, s, p, hx => by simp [curP] at h; subst h; exact .inr ⟨rfl, by simpa [putP, valsP] using hx⟩
 | t :: r, q, h, hpl, s, p, hx => by
  unfold curP at h
  split at h
  ·rename_i p1 hp1
   split at h
   ·rename_i q' hq'
    simp only [Option.some.injEq] at h
    subst h
    have hpt := hpl t (by simp [mem])
    rw [hp1] at hpt
    cases hp2 : plook lc t with
    | none => simp [hp2] at hpt
    | some p2 =>
     simp only [hp2, Option.map_some, Option.some.injEq, Priv.place, Prod.mk.injEq] at hpt
     simp only [valsP, List.map_cons, putP, hp2, plook] at hx
     simp only [mem]
     cases hb : Nat.beq t s with
     | true =>
      have := Nat.eq_of_beq_eq_true hb
      subst this
      simp only [hb, Option.some.injEq] at hx
      subst hx
      exact .inl ⟨rfl, p1, hp1, hpt.1.symm, hpt.2.symm, by simp [vals, Function.comp_def]⟩
     | false =>
      simp only [hb] at hx
      exact curP_look hq' (fun u hu => hpl u (by simp only [mem]; cases Nat.beq t u <;> simp_all)) hx
   ·cases h
  ·cases h
theorem curP_has {lc lc' kl : List Priv} : ∀ {l : List Nat} {q : List (List (Sh × Value))}, curP lc' l = some q -> (∀ t, mem l t = true -> (plook lc' t).map Priv.place = (plook lc t).map Priv.place) ->
  ∀ {s : Nat}, mem l s = true -> ∃ p p', plook (putP lc l (valsP q) kl) s = some p /\ plook lc' s = some p' /\ p.blk = p'.blk
 | [], q, h, _, s, hs => by simp [mem] at hs
 | t :: r, q, h, hpl, s, hs => by
  unfold curP at h
  split at h
  ·rename_i p1 hp1
   split at h
   ·rename_i q' hq'
    simp only [Option.some.injEq] at h
    subst h
    have hpt := hpl t (by simp [mem])
    rw [hp1] at hpt
    cases hp2 : plook lc t with
    | none => simp [hp2] at hpt
    | some p2 =>
     simp only [hp2, Option.map_some, Option.some.injEq, Priv.place, Prod.mk.injEq] at hpt
     simp only [valsP, List.map_cons, putP, hp2, plook]
     cases hb : Nat.beq t s with
     | true =>
      have := Nat.eq_of_beq_eq_true hb
      subst this
      exact ⟨_, p1, rfl, hp1, hpt.1.symm⟩
     | false =>
      simp only [mem, hb] at hs
      exact curP_has hq' (fun u hu => hpl u (by simp only [mem]; cases Nat.beq t u <;> simp_all)) hs
   ·cases h
  ·cases h
theorem mk_rel {ro : RO} {d : LD} {st st' : St} {kf : List (Nat × AVal)} {kl : List Priv} (hok : d.ok ro = true) (hkf : keepFr st (d.keepP ++ d.varP) d.keepT = some kf) (hkl : keepLc st.lc d.keepP = some kl)
  {q0 : List (List (Sh × Value))} (h0 : curP st.lc d.varP = some q0)
  (hK : ∀ t, mem d.keepT t = true -> look st'.fr t = look st.fr t) (hP : ∀ s, mem d.keepP s = true -> plook st'.lc s = plook st.lc s)
  (hA : ∀ s, mem (d.keepP ++ d.varP) s = true -> (plook st'.lc s).map Priv.place = (plook st.lc s).map Priv.place)
  {v1 : List (Sh × Value)} {v2 : List (List (Sh × Value))} (h1 : curT st' d.varT = some v1) (h2 : curP st'.lc d.varP = some v2) {a : Act} {w : World} (r : Rel st' a w) :
  Rel (mkSt d st kf kl (vals v1) (valsP v2)) a w := by
 simp only [LD.ok, Bool.and_eq_true] at hok
 obtain ⟨⟨⟨⟨_, _⟩, _⟩, hdT⟩, hdP⟩ := hok
 have k1 := keepFr_look hkf
 obtain ⟨l1, l2⟩ := keepLc_look hkl
 have hA' : ∀ t, mem d.varP t = true -> (plook st'.lc t).map Priv.place = (plook st.lc t).map Priv.place := fun t ht => hA t (by rw [mem_append, ht, Bool.or_true])
 have hpl : ∀ s p, plook (mkSt d st kf kl (vals v1) (valsP v2)).lc s = some p -> ∃ p', plook st'.lc s = some p' /\ p.blk = p'.blk /\ p.elem = p'.elem /\ p.cells = p'.cells := by
  intro s p hp
  rcases curP_look h2 hA' hp with ⟨_, h⟩ | ⟨_, h⟩
  ·exact h
  ·obtain ⟨p', e1, e2, e3, e4, e5⟩ := l1 s p h
   exact ⟨p', (hP s e5).trans e1, e2, e3, e4⟩
 refine ⟨fun t x hx => ?_, fun s p hp => ?_, fun s t p q hp hq hst => ?_, r.df⟩
 ·rcases curT_look h1 hx with ⟨_, y, v, e1, e2, rfl⟩ | ⟨_, e⟩
  ·obtain ⟨u, c1, c2⟩ := r.fr t y e1
   rw [AVal.conc_out e2] at c1
   exact ⟨v, rfl, by rw [c2]; exact c1.symm⟩
  ·obtain ⟨e1, e2, e4⟩ := k1 t x e
   have e3 : look st'.fr t = some x := (hK t e2).trans e1
   obtain ⟨u, c1, c2⟩ := r.fr t x e3
   refine ⟨u, ?_, c2⟩
   have has : ∀ s, mem (d.keepP ++ d.varP) s = true -> ∃ p p', plook (mkSt d st kf kl (vals v1) (valsP v2)).lc s = some p /\ plook st'.lc s = some p' /\ p.blk = p'.blk := by
    intro s hs
    rw [mem_append, Bool.or_eq_true] at hs
    cases hv : mem d.varP s with
    | true => exact curP_has h2 hA' hv
    | false =>
     rw [hv] at hs
     have hs' : mem d.keepP s = true := by simpa using hs
     obtain ⟨p, p', g1, g2, g3, _⟩ := l2 s hs'
     exact ⟨p, p', (putP_other hv (fun u hu => curP_all h0 u hu)).trans g1, (hP s hs').trans g2, g3⟩
   cases x with
   | loc s o =>
    obtain ⟨p, p', g1, g2, g3⟩ := has s e4
    simpa [AVal.conc, g1, g2, g3] using c1
   | row s o =>
    obtain ⟨p, p', g1, g2, g3⟩ := has s e4
    simpa [AVal.conc, g1, g2, g3] using c1
   | _ => exact c1
 ·obtain ⟨p', e1, e2, e3, e4⟩ := hpl s p hp
  rw [e2, e3, e4]
  exact r.pr s p' e1
 ·obtain ⟨p', e1, e2, _⟩ := hpl s p hp
  obtain ⟨q', f1, f2, _⟩ := hpl t q hq
  rw [e2, f2]
  exact r.ap s t p' q' e1 f1 hst
theorem keepFr_has {st : St} {ps : List Nat} : ∀ {l : List Nat} {q : List (Nat × AVal)}, keepFr st ps l = some q -> ∀ t, mem l t = true -> look q t = look st.fr t
 | [], q, h => fun t ht => by simp [mem] at ht
 | t :: r, q, h => by
  unfold keepFr at h
  split at h
  ·rename_i x h1
   split at h
   ·split at h
    ·rename_i q' h2
     simp only [Option.some.injEq] at h
     subst h
     intro u hu
     simp only [mem] at hu
     simp only [look]
     cases hb : Nat.beq t u with
     | true => have := Nat.eq_of_beq_eq_true hb; subst this; simp [h1]
     | false => simp only [hb] at hu; exact keepFr_has h2 u hu
    ·cases h
   ·cases h
  ·cases h
end Go.X
namespace Go.X
theorem Sh.ex_one {s : Sh} {K : Value -> Prop} (h : s.ex K) : ∃ v, K v /\ ∀ K' : Value -> Prop, K' v -> s.ex K' := by
 cases s <;> simp only [Sh.ex] at h
 case slice => obtain ⟨a, l, c, h⟩ := h; exact ⟨_, h, fun _ h' => ⟨a, l, c, h'⟩⟩
 case func => obtain ⟨a, l, c, h⟩ := h; exact ⟨_, h, fun _ h' => ⟨a, l, c, h'⟩⟩
 case ifc =>
  rcases h with h | ⟨t, v, h⟩
  ·exact ⟨_, h, fun _ h' => .inl h'⟩
  ·exact ⟨_, h, fun _ h' => .inr ⟨t, v, h'⟩⟩
 all_goals (obtain ⟨n, h⟩ := h; exact ⟨_, h, fun _ h' => ⟨n, h'⟩⟩)
theorem ldCells_one {h : Heap} {b : Nat} : ∀ {l : List Sh} {o : Nat} {K : List Value -> Prop}, ldCells h b o l K -> ∃ vs, K vs /\ ∀ K' : List Value -> Prop, K' vs -> ldCells h b o l K'
 | [], _, _, hk => ⟨[], hk, fun _ h' => h'⟩
 | s :: r, o, K, hk => by
  obtain ⟨v, ⟨hc, h2⟩, h3⟩ := Sh.ex_one hk
  obtain ⟨vs, e1, e2⟩ := ldCells_one h2
  exact ⟨v :: vs, e1, fun K' h' => h3 _ ⟨hc, e2 _ h'⟩⟩
def One (D : (AVal -> Prop) -> Prop) (K : AVal -> Prop) : Prop := ∃ x, K x /\ ∀ K' : AVal -> Prop, K' x -> D K'
theorem ldVar_one {ti : TI} {h : Heap} {b o : Nat} {K : AVal -> Prop} (d : ldVar ti h b o K) : One (ldVar ti h b o) K := by
 unfold ldVar at d
 cases hagg : ti.agg with
 | true =>
  simp only [hagg] at d
  obtain ⟨vs, e1, e2⟩ := ldCells_one d
  exact ⟨_, e1, fun K' h' => by unfold ldVar; simp only [hagg]; exact e2 _ h'⟩
 | false =>
  simp only [hagg] at d
  split at d
  ·rename_i s hs
   obtain ⟨v, ⟨h1, h2⟩, h3⟩ := Sh.ex_one d
   exact ⟨_, h2, fun K' h' => by unfold ldVar; simp only [hagg, hs]; exact h3 _ ⟨h1, h'⟩⟩
  ·exact d.elim
theorem ldPriv_one {ti : TI} {cs : List Value} {o : Nat} {K : AVal -> Prop} (d : ldPriv ti cs o K) : One (ldPriv ti cs o) K := by
 unfold ldPriv at d
 split at d
 ·rename_i hagg
  split at d
  ·rename_i vs hs
   exact ⟨_, d, fun K' h' => by unfold ldPriv; simp only [hagg, hs]; exact h'⟩
  ·exact d.elim
 ·rename_i hagg
  split at d
  ·rename_i v hs
   exact ⟨_, d, fun K' h' => by unfold ldPriv; simp only [hagg, hs]; exact h'⟩
  ·exact d.elim
theorem nob_one {mo : Option (List Nat)} {b : Nat} {D : (AVal -> Prop) -> Prop} {K : AVal -> Prop} (d : nob mo b (D K)) (h : D K -> One D K) : One (fun K => nob mo b (D K)) K := by
 cases mo with
 | none => exact h d
 | some M => obtain ⟨d1, d2⟩ := d; obtain ⟨x, h1, h2⟩ := h d2; exact ⟨x, h1, fun K' h' => ⟨d1, h2 K' h'⟩⟩
theorem deref_one {x : AVal} {D E : Nat -> Nat -> (AVal -> Prop) -> Prop} {K : AVal -> Prop} (d : deref x (fun b o => D b o K) (fun s o => E s o K))
  (h1 : ∀ b o, D b o K -> One (D b o) K) (h2 : ∀ b o, E b o K -> One (E b o) K) : One (fun K => deref x (fun b o => D b o K) (fun s o => E s o K)) K := by
 cases x with
 | ptr b o => exact h1 b o d
 | loc s o => exact h2 s o d
 | val u =>
  cases u with
  | pointer pa =>
   obtain ⟨b, o, e, d⟩ := d
   obtain ⟨y, g1, g2⟩ := h1 b o d
   exact ⟨y, g1, fun K' h' => ⟨b, o, e, g2 K' h'⟩⟩
  | _ => exact d.elim
 | _ => exact d.elim
theorem inb_one {x : Operand} {n : Int} {len : Nat} {D : (AVal -> Prop) -> Prop} {K : AVal -> Prop} (d : inb x n len (D K)) (h : D K -> One D K) : One (fun K => inb x n len (D K)) K := by
 cases x with
 | const v =>
  simp only [inb] at d ⊢
  split at d
  ·exact h d
  ·exact d.elim
 | _ => obtain ⟨d1, d2, d3⟩ := d; obtain ⟨x, g1, g2⟩ := h d3; exact ⟨x, g1, fun K' h' => ⟨d1, d2, g2 K' h'⟩⟩
theorem asSlice_one {x : AVal} {D : Option Addr -> Nat -> Nat -> (AVal -> Prop) -> Prop} {K : AVal -> Prop} (d : asSlice x fun a l c => D a l c K) (h : ∀ a l c, D a l c K -> One (D a l c) K) :
  One (fun K => asSlice x fun a l c => D a l c K) K := by
 cases x with
 | val u =>
  cases u with
  | slice a l c => exact h a l c d
  | _ => exact d.elim
 | sl b o l c => exact h _ l c d
 | _ => exact d.elim
theorem iop_one {op : BinOp} {k : IntKind} {x y : Int} {K : AVal -> Prop} (d : iop op k x y K) : One (iop op k x y) K := by
 cases op <;> simp only [iop] at d <;> first
  | exact ⟨_, d, fun _ h' => h'⟩
  | exact ⟨_, d.2, fun _ h' => ⟨d.1, h'⟩⟩
theorem kindEq_one {a b : IntKind} {D : (AVal -> Prop) -> Prop} {K : AVal -> Prop} (d : kindEq a b (D K)) (h : D K -> One D K) : One (fun K => kindEq a b (D K)) K := by
 cases a <;> cases b <;> first | exact d.elim | exact h d
theorem intB_one {op : BinOp} {k k' : IntKind} {a b : Int} {K : AVal -> Prop} (d : intB op k k' a b K) : One (intB op k k' a b) K := by
 cases op <;> first | exact iop_one (op := .shl) d | exact iop_one (op := .shr) d | exact kindEq_one (K := K) d iop_one
theorem fkindEq_one {a b : FloatKind} {D : (AVal -> Prop) -> Prop} {K : AVal -> Prop} (d : fkindEq a b (D K)) (h : D K -> One D K) : One (fun K => fkindEq a b (D K)) K := by
 cases a <;> cases b <;> first | exact d.elim | exact h d
theorem fcmp_one {op : BinOp} {k : FloatKind} {x y : Nat} {K : AVal -> Prop} (d : fcmp op k x y K) : One (fcmp op k x y) K := by
 cases op <;> simp only [fcmp] at d <;> first
  | exact d.elim
  | exact ⟨_, d, fun _ h' => h'⟩
theorem beqB_one {op : BinOp} {b : Bool} {K : AVal -> Prop} (d : beqB op b K) : One (beqB op b) K := by
 cases op <;> simp only [beqB] at d <;> first
  | exact d.elim
  | exact ⟨_, d, fun _ h' => h'⟩
theorem strB_one {op : BinOp} {a b : ByteArray} {K : AVal -> Prop} (d : strB op a b K) : One (strB op a b) K := by
 cases op <;> simp only [strB] at d <;> first
  | exact d.elim
  | exact ⟨_, d, fun _ h' => h'⟩
  | (obtain ⟨d1, d⟩ := d; exact ⟨_, d, fun _ h' => ⟨d1, h'⟩⟩)
theorem bop_one {op : BinOp} {x y : AVal} {K : AVal -> Prop} (d : bop op x y K) : One (bop op x y) K := by
 unfold bop at d ⊢
 split at d
 ·exact intB_one d
 ·exact fkindEq_one (K := K) d fcmp_one
 all_goals first | exact beqB_one d | exact strB_one d | exact d.elim
theorem bopA_one {T : TAB} {ti : TI} {op : BinOp} {x y : AVal} {K : AVal -> Prop} (d : bopA T ti op x y K) : One (bopA T ti op x y) K := by
 unfold bopA at d ⊢
 split at d
 ·repeat' (first | exact d.elim | exact beqB_one d | split at d)
 ·exact bop_one d
theorem bopN_one {T : TAB} {ti : TI} {y' : Operand} {op : BinOp} {x y : AVal} {K : AVal -> Prop} (d : bopN T ti y' op x y K) : One (bopN T ti y' op x y) K := by
 unfold bopN at d ⊢
 split at d
 ·repeat' (first | exact d.elim | exact beqB_one d | split at d)
 ·repeat' (first | exact d.elim | exact beqB_one d | split at d)
 ·exact bopA_one d
theorem sbound_one {x : Option Operand} {st : St} {df y : Nat} {D : Nat -> (AVal -> Prop) -> Prop} {K : AVal -> Prop} (d : sbound x st df y fun n => D n K) (h : ∀ n, D n K -> One (D n) K) :
  One (fun K => sbound x st df y fun n => D n K) K := by
 cases x with
 | none => exact h df d
 | some u =>
  simp only [sbound] at d
  split at d
  ·rename_i k n he
   obtain ⟨d1, d2, d3⟩ := d
   obtain ⟨z, g1, g2⟩ := h _ d3
   exact ⟨z, g1, fun K' h' => by simp only [sbound, he]; exact ⟨d1, d2, g2 K' h'⟩⟩
  ·exact d.elim
theorem lenOfX_one {x : AVal} {g : Nat -> AVal} {K : AVal -> Prop} (d : lenOfX x fun n => K (g n)) : ∃ y, K y /\ ∀ K' : AVal -> Prop, K' y -> lenOfX x fun n => K' (g n) := by
 unfold lenOfX at d ⊢
 split at d <;> first | exact d.elim | exact ⟨_, d, fun _ h' => h'⟩
theorem capOfX_one {x : AVal} {g : Nat -> AVal} {K : AVal -> Prop} (d : capOfX x fun n => K (g n)) : ∃ y, K y /\ ∀ K' : AVal -> Prop, K' y -> capOfX x fun n => K' (g n) := by
 unfold capOfX at d ⊢
 split at d <;> first | exact d.elim | exact ⟨_, d, fun _ h' => h'⟩
theorem det_one {T : TAB} {L : List Priv} {mo : Option (List Nat)} {st : St} {h : Heap} {op : Op} {K : AVal -> Prop} (d : det T L mo st h op K) : ∃ x, K x /\ ∀ K' : AVal -> Prop, K' x -> det T L mo st h op K' := by
 cases op <;> try exact d.elim
 case load t x =>
  simp only [det] at d ⊢
  split at d
  ·rename_i ti h1
   try simp only [h1]
   split at d
   ·rename_i y h2
    try simp only [h2]
    refine deref_one (K := K) d (fun b o d => nob_one (K := K) d ldVar_one) (fun s o d => ?_)
    split at d
    ·rename_i p hp
     try simp only [hp]
     exact ldPriv_one d
    ·exact d.elim
   ·exact d.elim
  ·exact d.elim
 case nilCheck x =>
  simp only [det] at d ⊢
  split at d
  ·rename_i y h2
   try simp only [h2]
   exact deref_one (K := K) d (fun b o d => ⟨_, d, fun _ h' => h'⟩) (fun s o d => ⟨_, d, fun _ h' => h'⟩)
  ·exact d.elim
 case fieldAddr t x f =>
  simp only [det] at d ⊢
  split at d
  ·rename_i h1
   try simp only [h1]
   split at d
   ·rename_i h2
    try simp only [h2]
    split at d
    ·rename_i h3
     try simp only [h3]
     split at d
     ·exact d.elim
     ·rename_i h4
      try simp only [h4]
      split at d
      ·rename_i h5
       try simp only [h5]
       exact deref_one (K := K) d (fun b o d => ⟨_, d, fun _ h' => h'⟩) (fun s o d => ⟨_, d, fun _ h' => h'⟩)
      ·exact d.elim
    ·exact d.elim
   ·exact d.elim
  ·exact d.elim
 case indexAddr t x i =>
  simp only [det] at d ⊢
  split at d
  ·rename_i h1
   try simp only [h1]
   split at d
   ·rename_i h2
    try simp only [h2]
    split at d
    ·rename_i h3
     try simp only [h3]
     split at d
     ·rename_i h4
      try simp only [h4]
      split at d
      ·rename_i h5
       try simp only [h5]
       exact inb_one (K := K) d fun d => ⟨_, d, fun _ h' => h'⟩
      ·rename_i y hne h5
       obtain ⟨z, g1, g2⟩ := asSlice_one (K := K) (D := fun a l _ K => ∃ b o, a = some ⟨b, o, none⟩ /\ 0 <= _ /\ _ < (l : Int) /\ K (.ptr b (o + _))) d (fun a l c d => by
        obtain ⟨b, o, e1, e2, e3, d⟩ := d
        exact ⟨_, d, fun K' h' => ⟨b, o, e1, e2, e3, h'⟩⟩)
       refine ⟨z, g1, fun K' h' => ?_⟩
       try simp only [h5]
       exact g2 K' h'
      ·exact d.elim
     ·exact d.elim
    ·exact d.elim
   ·rename_i h2
    try simp only [h2]
    split at d
    ·rename_i h3
     try simp only [h3]
     split at d
     ·rename_i h4
      try simp only [h4]
      split at d
      ·rename_i h5
       try simp only [h5]
       exact deref_one (K := K) d (fun b o d => inb_one (K := K) d fun d => ⟨_, d, fun _ h' => h'⟩) (fun s o d => inb_one (K := K) d fun d => ⟨_, d, fun _ h' => h'⟩)
      ·exact d.elim
     ·exact d.elim
    ·exact d.elim
   ·exact d.elim
  ·exact d.elim
 case binOp op t x y u =>
  simp only [det] at d ⊢
  split at d
  ·rename_i h1
   try simp only [h1]
   split at d
   ·rename_i h2
    try simp only [h2]
    split at d
    ·rename_i h3
     try simp only [h3]
     split at d
     ·rename_i h4
      try simp only [h4]
      exact bopN_one d
     ·exact d.elim
    ·exact d.elim
   ·exact d.elim
  ·exact d.elim
 case slice t x lo hi mx =>
  cases mx with
  | some m0 => cases hi with
   | none => exact d.elim
   | some h0 =>
    simp only [det] at d ⊢
    split at d
    ·rename_i h1
     try simp only [h1]
     split at d
     ·rename_i h2
      try simp only [h2]
      split at d
      ·rename_i h3
       try simp only [h3]
       split at d
       ·rename_i h4
        try simp only [h4]
        exact asSlice_one (K := K) d fun a l c d => sbound_one (K := K) d fun p d => sbound_one (K := K) d fun n d => sbound_one (K := K) d fun m d => ⟨_, d, fun _ h' => h'⟩
       ·exact d.elim
      ·exact d.elim
     ·exact d.elim
    ·exact d.elim
  | none =>
   simp only [det] at d ⊢
   split at d
   ·rename_i h1
    try simp only [h1]
    split at d
    ·rename_i h2
     try simp only [h2]
     split at d
     ·rename_i h3
      try simp only [h3]
      split at d
      ·rename_i h4
       try simp only [h4]
       exact asSlice_one (K := K) d fun a l c d => sbound_one (K := K) d fun n d => sbound_one (K := K) d fun m d => ⟨_, d, fun _ h' => h'⟩
      ·exact d.elim
     ·exact d.elim
    ·split at d
     ·rename_i h3
      try simp only [h3]
      split at d
      ·rename_i h4
       try simp only [h4]
       exact sbound_one (K := K) d fun n d => sbound_one (K := K) d fun m d => ⟨_, d, fun _ h' => h'⟩
      ·exact d.elim
     ·exact d.elim
    ·split at d
     ·rename_i h3
      try simp only [h3]
      split at d
      ·rename_i h4
       try simp only [h4]
       exact deref_one (K := K) d (fun b o d => sbound_one (K := K) d fun n d => sbound_one (K := K) d fun m d => ⟨_, d, fun _ h' => h'⟩) (fun _ _ d => d.elim)
      ·exact d.elim
     ·exact d.elim
    ·exact d.elim
   ·exact d.elim
 case index t x i =>
  simp only [det] at d ⊢
  split at d
  ·rename_i h1
   try simp only [h1]
   split at d
   ·rename_i h2
    try simp only [h2]
    split at d
    ·rename_i h3
     try simp only [h3]
     split at d
     ·rename_i h4
      try simp only [h4]
      split at d
      ·rename_i h5
       try simp only [h5]
       obtain ⟨d1, d2, d⟩ := d
       obtain ⟨v, ⟨e1, e2⟩, e3⟩ := Sh.ex_one d
       exact ⟨_, e2, fun K' h' => ⟨d1, d2, e3 _ ⟨e1, h'⟩⟩⟩
      ·exact d.elim
     ·exact d.elim
    ·exact d.elim
   ·split at d
    ·rename_i h3
     try simp only [h3]
     split at d
     ·rename_i h4
      try simp only [h4]
      split at d
      ·rename_i h5
       try simp only [h5]
       obtain ⟨d1, d2, c, d3, d⟩ := d
       exact ⟨_, d, fun K' h' => ⟨d1, d2, c, d3, h'⟩⟩
      ·exact d.elim
     ·exact d.elim
    ·exact d.elim
   ·exact d.elim
  ·exact d.elim
 all_goals
  simp only [det] at d ⊢
  repeat' (first | exact d.elim | exact ⟨_, d, fun _ h' => h'⟩ | (obtain ⟨r, e, d⟩ := d; exact ⟨_, d, fun K' h' => ⟨r, e, h'⟩⟩) | exact lenOfX_one (g := fun n => .val (.int .i64 (n : Int))) d | exact capOfX_one (g := fun n => .val (.int .i64 (n : Int))) d | split at d)
end Go.X
