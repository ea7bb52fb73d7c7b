/- All operations that make or write memory, draw, or call, over an abstract state; the model's operation does so. Conditions: the table of types is the program's; a called function has a body. -/
import Derived.Test.YtmcloipjlihhlaaXAct2
namespace Go.X

/-- A call, by a contract that the prover names. -/
def callX (P : Program) (f : FuncId) (args : Array Value) (h : Heap) (H : List Nat) (K : Value → Heap → Prop) : Prop :=
  ∃ (M : List Nat) (R : Value → Heap → Prop), CallsH P f args h (fun v h' => Fr M h h' ∧ R v h') ∧ (∀ b ∈ H, b ∉ M) ∧ ∀ v h', Fr M h h' → R v h' → K v h'
/-- What a function without a Go body yields. -/
def ExtH (P : Program) (f : FuncId) (args : Array Value) (R : Value → Prop) : Prop :=
  ∀ w : World, ∃ v w', (callFunc f args).run P w = .ok (.value v) w' ∧ w'.heap = w.heap ∧ Rest w w' ∧ R v
def callE (P : Program) (f : FuncId) (args : Array Value) (K : Value → Prop) : Prop :=
  ∃ R : Value → Prop, ExtH P f args R ∧ ∀ v, R v → K v
/-- These functions have bodies. -/
def FnsOK (P : Program) : List Nat → Prop
  | [] => True
  | f :: r => (match P.funcs[f]? with
    | some fn => (fn.name == "runtime.NumGoroutine") = false ∧ fn.body.isSome = true
    | none => False) ∧ FnsOK P r
theorem FnsOK.mem {P : Program} : ∀ {l : List Nat}, FnsOK P l → ∀ {f : Nat}, X.mem l f = true → ∀ (args : Array Value) (w : World), (callFunc f args).run P w = .ok (.enter f args) w
  | [], _, f, h, _, _ => by simp [X.mem] at h
  | g :: r, hl, f, h, args, w => by
    simp only [X.mem] at h
    cases hk : Nat.beq g f with
    | true =>
      have := Nat.eq_of_beq_eq_true hk
      subst this
      have h1 := hl.1
      cases hf : P.funcs[g]? with
      | none => simp [hf] at h1
      | some fn =>
        simp only [hf] at h1
        obtain ⟨h2, h3⟩ := h1
        have h4 : fn.name ≠ "runtime.NumGoroutine" := by simpa using h2
        have h5 : fn.body ≠ none := by intro hh; simp [hh] at h3
        simp [callFunc, hf, h4, h5]
    | false => simp only [hk] at h; exact FnsOK.mem hl.2 h args w
def exVal (ti : TI) (K : Value → Prop) : Prop :=
  match ti.agg with
  | true => exL ti.shs fun vs => K (.agg vs.toArray)
  | false => match ti.shs with
    | [s] => s.ex K
    | _ => False
def exTup (T : TAB) : List Nat → (List Value → Prop) → Prop
  | [], K => K []
  | t :: r, K => match tl T t with
    | some ti => exVal ti fun v => exTup T r fun vs => K (v :: vs)
    | none => False
/-- A value of that type. -/
def exRes (T : TAB) (t : Nat) (K : Value → Prop) : Prop :=
  match tl T t with
  | some ti => (match ti.kids with
    | .tuple ts => exTup T ts fun vs => K (.tuple vs.toArray)
    | _ => exVal ti K)
  | none => False
theorem exVal_elim {ti : TI} {K : Value → Prop} (h : exVal ti K) : ∃ v, K v := by
  unfold exVal at h
  split at h
  · obtain ⟨vs, _, _, hk⟩ := exL_elim h; exact ⟨_, hk⟩
  · split at h
    · obtain ⟨v, _, hk⟩ := Sh.ex_elim h; exact ⟨v, hk⟩
    · exact h.elim
theorem exTup_elim {T : TAB} : ∀ {l : List Nat} {K : List Value → Prop}, exTup T l K → ∃ vs, K vs
  | [], _, h => ⟨[], h⟩
  | t :: r, K, h => by
    simp only [exTup] at h
    split at h
    · obtain ⟨v, hv⟩ := exVal_elim h; obtain ⟨vs, hk⟩ := exTup_elim hv; exact ⟨_, hk⟩
    · exact h.elim
theorem exRes_elim {T : TAB} {t : Nat} {K : Value → Prop} (h : exRes T t K) : ∃ v, K v := by
  unfold exRes at h
  split at h
  · split at h
    · obtain ⟨vs, hk⟩ := exTup_elim h; exact ⟨_, hk⟩
    · exact exVal_elim h
  · exact h.elim
/-- What a float's operation leaves where it gives no number: some NaN of the tape's. -/
def FRes (k : FloatKind) (x y : Nat) (r? : Option Nat) (r : Nat) : Prop :=
  match r? with
  | some s => r = s
  | none => ∃ n, r = (Question.nanBits k x y).cut n
def farith (op : BinOp) (k : FloatKind) (x y : Nat) (K : AVal → Prop) : Prop :=
  match op with
  | .add => ∀ r, FRes k x y (k.format.add x y) r → K (.val (.float k r))
  | .sub => ∀ r, FRes k x y (k.format.sub x y) r → K (.val (.float k r))
  | .mul => ∀ r, FRes k x y (k.format.mul x y) r → K (.val (.float k r))
  | .quo => ∀ r, FRes k x y (k.format.div x y) r → K (.val (.float k r))
  | _ => False
def F2I (s : FloatKind) (b : Nat) (k : IntKind) (n : Int) : Prop :=
  (∃ m, (s.decode b).toInt .zero = some m ∧ k.min ≤ m ∧ m ≤ k.max ∧ n = m) ∨
  ((∀ m, (s.decode b).toInt .zero = some m → ¬ (k.min ≤ m ∧ m ≤ k.max)) ∧ ∃ t, n = k.wrap ((Question.floatToInt s b k).cut t : Nat))
def pset (l : List Priv) (s : Nat) (cs : List Value) : List Priv :=
  match l with
  | [] => []
  | p :: r => match Nat.beq p.slot s with
    | true => ⟨p.slot, p.blk, p.elem, cs⟩ :: r
    | false => p :: pset r s cs
/-- An append onto a slice of the call's own. -/
def appX (e : Nat) (ei : TI) (h : Heap) (H : List Nat) (a : Option Addr) (n c : Nat) (m : Nat) (xs : List Value) (K : AVal → Heap → Prop) : Prop :=
  ∃ old, Own h e ei.shs.length a n c old ∧ (∀ b ∈ H, b ∉ blkOf a) ∧ (n + m) * ei.bytes ≤ 140737488355328 ∧ n + m ≤ maxLen ∧
    ∀ a' c' h', Own h' e ei.shs.length a' (n + m) c' (old ++ xs) → Fr (blkOf a) h h' → ((a' = a ∧ c' = c) ∨ ∃ g, a' = some ⟨g, 0, none⟩ ∧ h.size ≤ g) → (c < n + m → Fr [] h h') → K (.val (.slice a' (n + m) c')) h'
def act (P : Program) (T : TAB) (F : List Nat) (privs : List Nat) (ro : RO) (st : St) (h : Heap) (o : Oper) (K : St → Heap → Prop) : Prop :=
  match o.op with
  | .box e x => (match evo st x with
    | some v => newBlk ro privs st o.dst h e (vcells v) (.ptr h.size 0) (fun d => .loc d 0) K
    | none => False)
  | .alloc e => (match tl T e with
    | some ti => newBlk ro privs st o.dst h e ti.zero (.ptr h.size 0) (fun d => .loc d 0) K
    | none => False)
  | .buildSlice t len parts => (match tl T t with
    | some ti => (match ti.kids with
      | .slice e => (match tl T e with
        | some ei => (match evps st parts.toList with
          | some ps => (match Nat.ble (len * ei.shs.length) 16777216 with
            | true => (match fillL (fun i => some (i * ei.shs.length, ei.shs.length)) (zrep ei.zero (len * ei.shs.length)) ps with
              | some cells => newBlk ro privs st o.dst h e cells (.sl h.size 0 len len) (fun d => .row d len) K
              | none => False)
            | false => False)
          | none => False)
        | none => False)
      | _ => False)
    | none => False)
  | .makeSlice t l c => (match tl T t with
    | some ti => (match ti.kids with
      | .slice e => (match tl T e with
        | some ei => (match ev st l with
          | some (.val (.int _ n)) => (match ev st c with
            | some (.val (.int _ m)) => 0 ≤ n ∧ n ≤ m ∧ (ei.bytes : Int) * m ≤ 281474976710656 ∧ m ≤ 9223372036854775807 ∧
                K (st.put o.dst (.sl h.size 0 n.toNat m.toNat)) (h.push (.cells (madeCells ei.zero.toArray (m.toNat * ei.shs.length)) e))
            | _ => False)
          | _ => False)
        | none => False)
      | _ => False)
    | none => False)
  | .store t a x => (match o.dst with
    | none => (match tl T t with
      | some ti => (match evo st x with
        | some v => (match Nat.beq (vcells v).length ti.shs.length with
          | true => (match ev st a with
            | some y => deref y (fun b off => nin b (hid st.lc) (stW h b off (vcells v) (K st (hsets h b off (vcells v)))))
                (fun s off => match plook st.lc s with
                  | some p => (match Nat.ble (off + (vcells v).length) p.cells.length && !mem ro.p s with
                    | true => stP (vcells v) (K ⟨st.fr, pset st.lc s (put1 p.cells off (vcells v))⟩ (hsets h p.blk off (vcells v)))
                    | false => False)
                  | none => False)
            | none => False)
          | false => False)
        | none => False)
      | none => False)
    | some _ => False)
  | .binOp op _ x y _ => (match ev st x with
    | some (.val (.float k a)) => (match ev st y with
      | some (.val (.float k' b)) => fkindEq k k' (farith op k a b fun v => K (st.put o.dst v) h)
      | _ => False)
    | _ => False)
  | .convert s t x => (match tl T s with
    | some _ => (match tl T t with
      | some ti => (match ti.kids with
        | .int k => (match ev st x with
          | some (.val (.float f b)) => ∀ n, F2I f b k n → K (st.put o.dst (.val (.int k n))) h
          | _ => False)
        | _ => False)
      | none => False)
    | none => False)
  | .call c => (match c.callee with
    | .builtin .append => (match c.args.toList with
      | [s, x] => (match c.argTypes.toList with
        | [t, t'] => (match Nat.beq t t' with
          | true => (match tl T t with
            | some ti => (match ti.kids with
              | .slice e => (match tl T e with
                | some ei => (match ev st s with
                  | some s => asSlice s fun a n c => (match ev st x with
                    | some (.row q m) => (match plook st.lc q with
                      | some p => (match Nat.beq p.cells.length (m * ei.shs.length) with
                        | true => stP p.cells (appX e ei h (hid st.lc) a n c m p.cells fun v h' => K (st.put o.dst v) h')
                        | false => False)
                      | none => False)
                    | some x => asSlice x fun xa m xc => ∃ xs, Reads h ei.shs.length xa m xs ∧ (xa = none → xc = 0) ∧ (∀ v ∈ xs, v.oneCell' = true) ∧
                        appX e ei h (hid st.lc) a n c m xs fun v h' => K (st.put o.dst v) h'
                    | none => False)
                  | none => False)
                | none => False)
              | _ => False)
            | none => False)
          | false => False)
        | _ => False)
      | _ => False)
    | .value f => (match ev st f with
      | some (.val (.func (.func g) first captured)) => (match evos st c.args.toList with
        | some vs => (match mem F g with
          | true => callX P g (first.toList ++ (vs ++ captured.toList)).toArray h (hid st.lc) fun v h' => exRes T o.type fun v' => v = v' ∧ K (st.put o.dst (.val v')) h'
          | false => callE P g (first.toList ++ (vs ++ captured.toList)).toArray fun v => exRes T o.type fun v' => v = v' ∧ K (st.put o.dst (.val v')) h)
        | none => False)
      | _ => False)
    | _ => False)
  | _ => False
end Go.X
