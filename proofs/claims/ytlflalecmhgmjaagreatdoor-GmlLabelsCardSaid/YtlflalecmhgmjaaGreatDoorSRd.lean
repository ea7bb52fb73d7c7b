/- Functions: what is left to be shown of each, over memory and without: printed by program, tied to the loaded functions by the kernel. Conditions: none. -/
import Derived.Test.YtlflalecmhgmjaaGreatDoorWEnv
import Derived.Test.YtlflalecmhgmjaaGreatDoorYGl
import Derived.Test.YtlflalecmhgmjaaGreatDoorSLex
namespace Go.Proofs.YtlflalecmhgmjaaGreatDoor.N
open Go.Proofs.YtlflalecmhgmjaaGreatDoor
open Go.X
set_option maxRecDepth 100000
set_option linter.unusedVariables false
set_option linter.unusedSimpArgs false
set_option maxHeartbeats 2000000
def S112 (v : Int) (v2 : Int) (v3 : ByteArray) (v4 : Nat) (h : Heap) (R Rp : Value -> Heap -> Prop) : Prop :=
 let H : Heap := h.push (.cells #[.int .i64 v, .int .i64 v2, .string v3, .float .f64 v4] 156)
 callX Tryz.prog 154 #[.string v3, .int .i64 10, .int .i64 64] H [h.size] fun i a =>
 ∃ b : Int, ((i = .tuple #[.int .i64 b, .nilIface] /\
  let c := fun (t : Heap) =>
   (R (.int .i64 b) t)
  cnd true
   (callX Tryz.prog 155 #[.int .i64 b, .int .i64 10] a [h.size] fun y f =>
   ∃ g : ByteArray, y = .string g /\
   Fr [] a f /\
   cnd (g.toList == v3.toList)
    (cnd (decide (b >= ((-2147483648) : Int)))
     (callP Tryz.prog 58 #[.bool (decide (b <= (2147483648 : Int))), .int .i64 v2, .int .i64 17] f [h.size] (fun w p =>
     w = .tuple #[] /\
     Fr [] a p /\
     c p) Rp)
     (callP Tryz.prog 58 #[.bool false, .int .i64 v2, .int .i64 17] f [h.size] (fun D m =>
     D = .tuple #[] /\
     Fr [] a m /\
     c m) Rp))
    (callP Tryz.prog 58 #[.bool false, .int .i64 v2, .int .i64 17] f [h.size] (fun z r =>
    z = .tuple #[] /\
    Fr [] a r /\
    c r) Rp))
   (Fr [] a a /\
   callP Tryz.prog 58 #[.bool false, .int .i64 v2, .int .i64 17] a [h.size] (fun x n =>
   x = .tuple #[] /\
   Fr [] a n /\
   c n) Rp))
 \/ ∃ (u : Nat) (A : Value), i = .tuple #[.int .i64 b, .iface u A] /\
  let d := fun (F : Heap) =>
   (R (.int .i64 b) F)
  cnd false
   (callX Tryz.prog 155 #[.int .i64 b, .int .i64 10] a [h.size] fun s e =>
   ∃ o : ByteArray, s = .string o /\
   Fr [] a e /\
   cnd (o.toList == v3.toList)
    (cnd (decide (b >= ((-2147483648) : Int)))
     (callP Tryz.prog 58 #[.bool (decide (b <= (2147483648 : Int))), .int .i64 v2, .int .i64 17] e [h.size] (fun C j =>
     C = .tuple #[] /\
     Fr [] a j /\
     d j) Rp)
     (callP Tryz.prog 58 #[.bool false, .int .i64 v2, .int .i64 17] e [h.size] (fun B k =>
     B = .tuple #[] /\
     Fr [] a k /\
     d k) Rp))
    (callP Tryz.prog 58 #[.bool false, .int .i64 v2, .int .i64 17] e [h.size] (fun G l =>
    G = .tuple #[] /\
    Fr [] a l /\
    d l) Rp))
   (Fr [] a a /\
   callP Tryz.prog 58 #[.bool false, .int .i64 v2, .int .i64 17] a [h.size] (fun E q =>
   E = .tuple #[] /\
   Fr [] a q /\
   d q) Rp))
theorem calls112 {h : Heap} {R Rp : Value -> Heap -> Prop} (v : Int) (v2 : Int) (v3 : ByteArray) (v4 : Nat) (H : S112 v v2 v3 v4 h R Rp) : CallsP Tryz.prog 112 #[.agg #[.int .i64 v, .int .i64 v2, .string v3, .float .f64 v4]] h R Rp := by
 have e : S112 v v2 v3 v4 h R Rp = FX (envP [1] 32 Rp) { loops := [], joins := [], blocks := [], draws := [(2, ⟨20, false⟩)] } Tryz.f112 (Tryz.f112.body.getD .skip) [.agg #[.int .i64 v, .int .i64 v2, .string v3, .float .f64 v4]] h R := by kernel_rfl
 exact calls_of_FXp (envP_ok _ _ _) Tryz.func112 (by kernel_rfl) (by kernel_rfl) (by kernel_rfl) rfl (e ▸ H)
def S209 (seenM : Option Nat) (key : Int) (key2 : Int) (key3 : ByteArray) (key4 : Nat) (h : Heap) (R Rp : Value -> Heap -> Prop) : Prop :=
 let b : Heap := h.push (.cells #[.int .i64 key, .int .i64 key2, .string key3, .float .f64 key4] 156)
 let f := fun (i : Heap) =>
  (∃ k, seenM = some k /\ ∃ es4 c4, hmap i k = some (es4, c4) /\ keysB tiStr es4 /\
  (∀ ev4 ∈ es4.toList, ev4.key = .string key3 ->
   ∃ o : Int, ev4.val = .int .i64 o /\ callP Tryz.prog 58 #[.bool (o == (1 : Int)), .int .i64 key2, .int .i64 18] i [h.size] (fun r v =>
   r = .tuple #[] /\
   R (.tuple #[]) v) Rp) /\
  ((∀ a ∈ es4.toList, a.key ≠ .string key3) ->
   callP Tryz.prog 58 #[.bool ((0 : Int) == (1 : Int)), .int .i64 key2, .int .i64 18] i [h.size] (fun x q =>
   x = .tuple #[] /\
   R (.tuple #[]) q) Rp))
 ∃ j, seenM = some j /\ ∃ es c, hmap b j = some (es, c) /\ keysB tiStr es /\
 (∀ ev ∈ es.toList, ev.key = .string key3 ->
  ∃ g : Int, ev.val = .int .i64 g /\ ∃ e, seenM = some e /\ e ≠ h.size /\ ∃ es2 c2, hmap b e = some (es2, c2) /\ keysB tiStr es2 /\
  (∀ (p : Nat) (m : MapEntry), es2[p]? = some m -> m.key = .string key3 ->
   let s : Heap := hput b e (es2.modify p fun a => { a with key := .string key3, val := .int .i64 (IntKind.i64.wrap (g + (1 : Int))) }) c2
   f s) /\
  ((∀ a ∈ es2.toList, a.key ≠ .string key3) ->
   let t : Heap := hput b e (es2.push ⟨.string key3, .int .i64 (IntKind.i64.wrap (g + (1 : Int))), c2⟩) (c2 + 1)
   f t)) /\
 ((∀ a ∈ es.toList, a.key ≠ .string key3) ->
  ∃ d, seenM = some d /\ d ≠ h.size /\ ∃ es3 c3, hmap b d = some (es3, c3) /\ keysB tiStr es3 /\
  (∀ (n : Nat) (l : MapEntry), es3[n]? = some l -> l.key = .string key3 ->
   let w : Heap := hput b d (es3.modify n fun a => { a with key := .string key3, val := .int .i64 (IntKind.i64.wrap ((0 : Int) + (1 : Int))) }) c3
   f w) /\
  ((∀ a ∈ es3.toList, a.key ≠ .string key3) ->
   let u : Heap := hput b d (es3.push ⟨.string key3, .int .i64 (IntKind.i64.wrap ((0 : Int) + (1 : Int))), c3⟩) (c3 + 1)
   f u))
theorem calls209 {h : Heap} {R Rp : Value -> Heap -> Prop} (seenM : Option Nat) (key : Int) (key2 : Int) (key3 : ByteArray) (key4 : Nat) (H : S209 seenM key key2 key3 key4 h R Rp) : CallsP Tryz.prog 209 #[.map seenM, .agg #[.int .i64 key, .int .i64 key2, .string key3, .float .f64 key4]] h R Rp := by
 have e : S209 seenM key key2 key3 key4 h R Rp = FX (envP [3] 17 Rp) { loops := [], joins := [], blocks := [], draws := [] } Tryz.f209 (Tryz.f209.body.getD .skip) [.map seenM, .agg #[.int .i64 key, .int .i64 key2, .string key3, .float .f64 key4]] h R := by kernel_rfl
 exact calls_of_FXp (envP_ok _ _ _) Tryz.func209 (by kernel_rfl) (by kernel_rfl) (by kernel_rfl) rfl (e ▸ H)
def S153 (rP : Option Addr) (seenM : Option Nat) (key : Int) (key2 : Int) (key3 : ByteArray) (key4 : Nat) (h : Heap) (R Rp : Value -> Heap -> Prop) : Prop :=
 let c : Heap := h.push (.cells #[.pointer rP] 89)
 let a : Heap := c.push (.cells #[.int .i64 key, .int .i64 key2, .string key3, .float .f64 key4] 156)
 cnd (key3.toList == (⟨#[100, 105, 114, 101, 99, 116, 101, 100]⟩ : ByteArray).toList)
  (callP Tryz.prog 209 #[.map seenM, .agg #[.int .i64 key, .int .i64 key2, .string key3, .float .f64 key4]] a [c.size] (fun w p =>
  w = .tuple #[] /\
  let x : Heap := p.push (.cells #[.int .i64 4, .func (.func 210) #[] #[.pointer (some (⟨h.size, 0, none⟩ : Addr))], .nilFunc, .nilFunc] 193)
  R (.pointer (some (⟨p.size, 0, none⟩ : Addr))) x) Rp)
  (cnd (key3.toList == (⟨#[110, 111, 100, 101]⟩ : ByteArray).toList)
   (∃ m : Option Addr, hcell a h.size 0 = some (.pointer m) /\ ∃ b o, m = some ⟨b, o, none⟩ /\ ∃ k : Int, hcell a b (o + 3) = some (.int .i64 k) /\ callP Tryz.prog 58 #[.bool (decide (k < (1024 : Int))), .int .i64 key2, .int .i64 3] a [c.size] (fun z d =>
   z = .tuple #[] /\
   Fr [] a d /\
   ∃ g : Option Addr, hcell d h.size 0 = some (.pointer g) /\ callX Tryz.prog 211 #[.pointer g] d [c.size] fun u y =>
   ∃ n : Option Addr, u = .pointer n /\
   R (.pointer n) y) Rp)
   (cnd (key3.toList == (⟨#[101, 100, 103, 101]⟩ : ByteArray).toList)
    (∃ i : Option Addr, hcell a h.size 0 = some (.pointer i) /\ ∃ b2 o2, i = some ⟨b2, o2, none⟩ /\ ∃ (v : Option Addr) (j s : Nat), hcell a b2 (o2 + 17) = some (.slice v j s) /\ (2 : Int) ≠ 0 /\ callP Tryz.prog 58 #[.bool (decide ((IntKind.i64.wrap (Int.tdiv ((j : Nat) : Int) (2 : Int))) < (3072 : Int))), .int .i64 key2, .int .i64 3] a [c.size] (fun t e =>
    t = .tuple #[] /\
    Fr [] a e /\
    ∃ l : Option Addr, hcell e h.size 0 = some (.pointer l) /\ callX Tryz.prog 212 #[.pointer l] e [c.size] fun q r =>
    ∃ f : Option Addr, q = .pointer f /\
    R (.pointer f) r) Rp)
    (R (.pointer none) a)))
theorem calls153 {h : Heap} {R Rp : Value -> Heap -> Prop} (rP : Option Addr) (seenM : Option Nat) (key : Int) (key2 : Int) (key3 : ByteArray) (key4 : Nat) (H : S153 rP seenM key key2 key3 key4 h R Rp) : CallsP Tryz.prog 153 #[.pointer rP, .map seenM, .agg #[.int .i64 key, .int .i64 key2, .string key3, .float .f64 key4]] h R Rp := by
 have e : S153 rP seenM key key2 key3 key4 h R Rp = FX (envP [5] 45 Rp) { loops := [], joins := [], blocks := [], draws := [(6, ⟨10, false⟩), (9, ⟨10, false⟩)] } Tryz.f153 (Tryz.f153.body.getD .skip) [.pointer rP, .map seenM, .agg #[.int .i64 key, .int .i64 key2, .string key3, .float .f64 key4]] h R := by kernel_rfl
 exact calls_of_FXp (envP_ok _ _ _) Tryz.func153 (by kernel_rfl) (by kernel_rfl) (by kernel_rfl) rfl (e ▸ H)
def S152 (key : Int) (key2 : Int) (key3 : ByteArray) (key4 : Nat) (fvP : Option Addr) (fvP2 : Option Addr) (h : Heap) (R Rp : Value -> Heap -> Prop) : Prop :=
 let a : Heap := h.push (.cells #[.int .i64 key, .int .i64 key2, .string key3, .float .f64 key4] 156)
 ∃ b o, fvP = some ⟨b, o, none⟩ /\ ∃ e : Option Addr, hcell a b o = some (.pointer e) /\ ∃ b2 o2, fvP2 = some ⟨b2, o2, none⟩ /\ ∃ c : Option Nat, hcell a b2 o2 = some (.map c) /\ callP Tryz.prog 153 #[.pointer e, .map c, .agg #[.int .i64 key, .int .i64 key2, .string key3, .float .f64 key4]] a [h.size] (fun f g =>
 ∃ d : Option Addr, f = .pointer d /\
 R (.pointer d) g) Rp
theorem calls152 {h : Heap} {R Rp : Value -> Heap -> Prop} (key : Int) (key2 : Int) (key3 : ByteArray) (key4 : Nat) (fvP : Option Addr) (fvP2 : Option Addr) (H : S152 key key2 key3 key4 fvP fvP2 h R Rp) : CallsP Tryz.prog 152 #[.agg #[.int .i64 key, .int .i64 key2, .string key3, .float .f64 key4], .pointer fvP, .pointer fvP2] h R Rp := by
 have e : S152 key key2 key3 key4 fvP fvP2 h R Rp = FX (envP [3] 9 Rp) { loops := [], joins := [], blocks := [], draws := [] } Tryz.f152 (Tryz.f152.body.getD .skip) [.agg #[.int .i64 key, .int .i64 key2, .string key3, .float .f64 key4], .pointer fvP, .pointer fvP2] h R := by kernel_rfl
 exact calls_of_FXp (envP_ok _ _ _) Tryz.func152 (by kernel_rfl) (by kernel_rfl) (by kernel_rfl) rfl (e ▸ H)
def S210 (v : Int) (v2 : Int) (v3 : ByteArray) (v4 : Nat) (fvP : Option Addr) (h : Heap) (R Rp : Value -> Heap -> Prop) : Prop :=
 let e : Heap := h.push (.cells #[.int .i64 v, .int .i64 v2, .string v3, .float .f64 v4] 156)
 let d := fun (p : Int) (l : ByteArray) (n : Nat) (a : Heap) =>
  (∃ b o, fvP = some ⟨b, o, none⟩ /\ ∃ c : Option Addr, hcell a b o = some (.pointer c) /\ ∃ b2 o2, c = some ⟨b2, o2, none⟩ /\ b2 ≠ h.size /\ (∃ k, hcell a b2 ((o2 + 3) + 2) = some k) /\ hfree a b2 ((o2 + 3) + 2) = true /\ let i : Heap := hset a b2 ((o2 + 3) + 2) (.bool (l.toList == (⟨#[49]⟩ : ByteArray).toList))
  R (.tuple #[]) i)
 cnd (v3.toList == (⟨#[48]⟩ : ByteArray).toList)
  (callP Tryz.prog 58 #[.bool true, .int .i64 v2, .int .i64 17] e [h.size] (fun f g =>
  f = .tuple #[] /\
  d v2 v3 v4 g) Rp)
  (callP Tryz.prog 58 #[.bool (v3.toList == (⟨#[49]⟩ : ByteArray).toList), .int .i64 v2, .int .i64 17] e [h.size] (fun j m =>
  j = .tuple #[] /\
  d v2 v3 v4 m) Rp)
theorem calls210 {h : Heap} {R Rp : Value -> Heap -> Prop} (v : Int) (v2 : Int) (v3 : ByteArray) (v4 : Nat) (fvP : Option Addr) (H : S210 v v2 v3 v4 fvP h R Rp) : CallsP Tryz.prog 210 #[.agg #[.int .i64 v, .int .i64 v2, .string v3, .float .f64 v4], .pointer fvP] h R Rp := by
 have e : S210 v v2 v3 v4 fvP h R Rp = FX (envP [2] 21 Rp) { loops := [], joins := [], blocks := [], draws := [] } Tryz.f210 (Tryz.f210.body.getD .skip) [.agg #[.int .i64 v, .int .i64 v2, .string v3, .float .f64 v4], .pointer fvP] h R := by kernel_rfl
 exact calls_of_FXp (envP_ok _ _ _) Tryz.func210 (by kernel_rfl) (by kernel_rfl) (by kernel_rfl) rfl (e ▸ H)
def S211 (rP : Option Addr) (h : Heap) (R : Value -> Heap -> Prop) : Prop :=
 let p : Heap := h.push (.cells #[.pointer rP] 89)
 ∃ O : Option Addr, hcell p h.size 0 = some (.pointer O) /\ ∃ b o, O = some ⟨b, o, none⟩ /\ ∃ L : Int, hcell p b (o + 3) = some (.int .i64 L) /\ let C : Heap := p.push (.cells #[.int .i64 0] 3)
 (∃ c, hcell C p.size 0 = some c) /\ hfree C p.size 0 = true /\ let s : Heap := hset C p.size 0 (.int .i64 L)
 ∃ D : Option Addr, hcell s h.size 0 = some (.pointer D) /\ ∃ b2 o2, D = some ⟨b2, o2, none⟩ /\ ∃ H : Int, hcell s b2 (o2 + 3) = some (.int .i64 H) /\ ∃ b3 o3, D = some ⟨b3, o3, none⟩ /\ (∃ c, hcell s b3 (o3 + 3) = some c) /\ hfree s b3 (o3 + 3) = true /\ let a : Heap := hset s b3 (o3 + 3) (.int .i64 (IntKind.i64.wrap (H + (1 : Int))))
 let K := fun (X : Nat) (G : Heap) =>
  (let n : Heap := G.push (.map #[] 0)
  let A : Heap := n.push (.cells #[.map none] 69)
  n.size ≠ X /\ n.size ≠ a.size /\ (∃ c, hcell A n.size 0 = some c) /\ hfree A n.size 0 = true /\ let N : Heap := hset A n.size 0 (.map (some G.size))
  let Z : Heap := N.push (.cells #[.int .i64 1, .nilFunc, .func (.func 261) #[] #[.pointer (some (⟨n.size, 0, none⟩ : Addr)), .pointer (some (⟨h.size, 0, none⟩ : Addr)), .pointer (some (⟨p.size, 0, none⟩ : Addr))], .func (.func 265) #[] #[.pointer (some (⟨n.size, 0, none⟩ : Addr))]] 193)
  R (.pointer (some (⟨N.size, 0, none⟩ : Addr))) Z)
 ∃ Mv Mv2 : List Nat, (∀ b ∈ Mv, b ∈ Mv2) /\ (∀ b ∈ ([] : List Nat), b ∉ Mv2) /\
 h.size ∉ Mv /\ ∃ z : Option Addr, hcell a h.size 0 = some (.pointer z) /\ h.size ∉ Mv2 /\ ∃ y : Option Addr, hcell a h.size 0 = some (.pointer y) /\ h.size ∉ Mv /\ ∃ J : Option Addr, hcell a h.size 0 = some (.pointer J) /\ ∃ b4 o4, J = some ⟨b4, o4, none⟩ /\ b4 ∉ Mv /\ ∃ (g : Option Addr) (d k : Nat), hcell a b4 (o4 + 11) = some (.slice g d k) /\ h.size ∉ Mv2 /\ ∃ V : Option Addr, hcell a h.size 0 = some (.pointer V) /\ ∃ b5 o5, V = some ⟨b5, o5, none⟩ /\ b5 ∉ Mv /\ ∃ (i : Option Addr) (e l : Nat), hcell a b5 (o5 + 12) = some (.slice i e l) /\ (let j : Heap := a.push (.cells #[.string (⟨#[]⟩ : ByteArray)] 9)
 Fr Mv a j /\
 (∃ M, Ownd j 9 1 g d k M /\ (∀ b ∈ ([a.size] : List Nat), b ∉ blkOf g) /\ (d + 1) * 16 <= 140737488355328 /\ (d + 1) <= maxLen /\
 ∀ sA sC hv6, Ownd hv6 9 1 sA (d + 1) sC (M ++ [.string (⟨#[]⟩ : ByteArray)]) -> Fr (blkOf g) j hv6 -> ((sA = g /\ sC = k) \/ ∃ f, sA = some ⟨f, 0, none⟩ /\ j.size <= f) -> (k < (d + 1) -> Fr [] j hv6) ->
 Fr Mv a hv6 /\
 let u : Heap := hv6.push (.cells #[.float .f64 0, .float .f64 0] 78)
 Fr Mv a u /\
 ∃ U, Ownd u 78 2 i e l U /\ (∀ b ∈ ([hv6.size, a.size] : List Nat), b ∉ blkOf i) /\ (e + 1) * 16 <= 140737488355328 /\ (e + 1) <= maxLen /\
 ∀ sA2 sC2 hv8, Ownd hv8 78 2 sA2 (e + 1) sC2 (U ++ [.float .f64 0, .float .f64 0]) -> Fr (blkOf i) u hv8 -> ((sA2 = i /\ sC2 = l) \/ ∃ f, sA2 = some ⟨f, 0, none⟩ /\ u.size <= f) -> (l < (e + 1) -> Fr [] u hv8) ->
 Fr Mv a hv8 /\
 ∃ b6 o6, z = some ⟨b6, o6, none⟩ /\ b6 ≠ hv6.size /\ b6 ≠ a.size /\ (∃ c, hcell hv8 b6 (o6 + 11) = some c) /\ hfree hv8 b6 (o6 + 11) = true /\ let x : Heap := hset hv8 b6 (o6 + 11) (.slice sA (d + 1) sC)
 Fr Mv2 a x /\
 ∃ b7 o7, y = some ⟨b7, o7, none⟩ /\ b7 ≠ hv6.size /\ b7 ≠ a.size /\ (∃ c, hcell x b7 (o7 + 12) = some c) /\ hfree x b7 (o7 + 12) = true /\ let I : Heap := hset x b7 (o7 + 12) (.slice sA2 (e + 1) sC2)
 Fr Mv2 a I /\
 K hv6.size I)
 /\ ( let r : Heap := j.push (.cells #[.float .f64 0, .float .f64 0] 78)
  Fr Mv a r /\
  ∃ W, Ownd r 9 1 g d k W /\ (∀ b ∈ ([j.size, a.size] : List Nat), b ∉ blkOf g) /\ (d + 1) * 16 <= 140737488355328 /\ (d + 1) <= maxLen /\
  ∀ sA3 sC3 hv12, Ownd hv12 9 1 sA3 (d + 1) sC3 (W ++ [.string (⟨#[]⟩ : ByteArray)]) -> Fr (blkOf g) r hv12 -> ((sA3 = g /\ sC3 = k) \/ ∃ f, sA3 = some ⟨f, 0, none⟩ /\ r.size <= f) -> (k < (d + 1) -> Fr [] r hv12) ->
  Fr Mv a hv12 /\
  ∃ T, Ownd hv12 78 2 i e l T /\ (∀ b ∈ ([j.size, a.size] : List Nat), b ∉ blkOf i) /\ (e + 1) * 16 <= 140737488355328 /\ (e + 1) <= maxLen /\
  ∀ sA4 sC4 hv13, Ownd hv13 78 2 sA4 (e + 1) sC4 (T ++ [.float .f64 0, .float .f64 0]) -> Fr (blkOf i) hv12 hv13 -> ((sA4 = i /\ sC4 = l) \/ ∃ f, sA4 = some ⟨f, 0, none⟩ /\ hv12.size <= f) -> (l < (e + 1) -> Fr [] hv12 hv13) ->
  Fr Mv a hv13 /\
  ∃ b8 o8, z = some ⟨b8, o8, none⟩ /\ b8 ≠ j.size /\ b8 ≠ a.size /\ (∃ c, hcell hv13 b8 (o8 + 11) = some c) /\ hfree hv13 b8 (o8 + 11) = true /\ let v : Heap := hset hv13 b8 (o8 + 11) (.slice sA3 (d + 1) sC3)
  Fr Mv2 a v /\
  ∃ b9 o9, y = some ⟨b9, o9, none⟩ /\ b9 ≠ j.size /\ b9 ≠ a.size /\ (∃ c, hcell v b9 (o9 + 12) = some c) /\ hfree v b9 (o9 + 12) = true /\ let Q : Heap := hset v b9 (o9 + 12) (.slice sA4 (e + 1) sC4)
  Fr Mv2 a Q /\
  K j.size Q))
 /\ ( let q : Heap := a.push (.cells #[.float .f64 0, .float .f64 0] 78)
  Fr Mv a q /\
  let t : Heap := q.push (.cells #[.string (⟨#[]⟩ : ByteArray)] 9)
  Fr Mv a t /\
  ∃ F, Ownd t 9 1 g d k F /\ (∀ b ∈ ([q.size, a.size] : List Nat), b ∉ blkOf g) /\ (d + 1) * 16 <= 140737488355328 /\ (d + 1) <= maxLen /\
  ∀ sA5 sC5 hv18, Ownd hv18 9 1 sA5 (d + 1) sC5 (F ++ [.string (⟨#[]⟩ : ByteArray)]) -> Fr (blkOf g) t hv18 -> ((sA5 = g /\ sC5 = k) \/ ∃ f, sA5 = some ⟨f, 0, none⟩ /\ t.size <= f) -> (k < (d + 1) -> Fr [] t hv18) ->
  Fr Mv a hv18 /\
  ∃ S, Ownd hv18 78 2 i e l S /\ (∀ b ∈ ([q.size, a.size] : List Nat), b ∉ blkOf i) /\ (e + 1) * 16 <= 140737488355328 /\ (e + 1) <= maxLen /\
  ∀ sA6 sC6 hv19, Ownd hv19 78 2 sA6 (e + 1) sC6 (S ++ [.float .f64 0, .float .f64 0]) -> Fr (blkOf i) hv18 hv19 -> ((sA6 = i /\ sC6 = l) \/ ∃ f, sA6 = some ⟨f, 0, none⟩ /\ hv18.size <= f) -> (l < (e + 1) -> Fr [] hv18 hv19) ->
  Fr Mv a hv19 /\
  ∃ b10 o10, z = some ⟨b10, o10, none⟩ /\ b10 ≠ q.size /\ b10 ≠ a.size /\ (∃ c, hcell hv19 b10 (o10 + 11) = some c) /\ hfree hv19 b10 (o10 + 11) = true /\ let w : Heap := hset hv19 b10 (o10 + 11) (.slice sA5 (d + 1) sC5)
  Fr Mv2 a w /\
  ∃ b11 o11, y = some ⟨b11, o11, none⟩ /\ b11 ≠ q.size /\ b11 ≠ a.size /\ (∃ c, hcell w b11 (o11 + 12) = some c) /\ hfree w b11 (o11 + 12) = true /\ let E : Heap := hset w b11 (o11 + 12) (.slice sA6 (e + 1) sC6)
  Fr Mv2 a E /\
  let m : Heap := E.push (.map #[] 0)
  let B : Heap := m.push (.cells #[.map none] 69)
  m.size ≠ q.size /\ m.size ≠ a.size /\ (∃ c, hcell B m.size 0 = some c) /\ hfree B m.size 0 = true /\ let P : Heap := hset B m.size 0 (.map (some E.size))
  let Y : Heap := P.push (.cells #[.int .i64 1, .nilFunc, .func (.func 261) #[] #[.pointer (some (⟨m.size, 0, none⟩ : Addr)), .pointer (some (⟨h.size, 0, none⟩ : Addr)), .pointer (some (⟨p.size, 0, none⟩ : Addr))], .func (.func 265) #[] #[.pointer (some (⟨m.size, 0, none⟩ : Addr))]] 193)
  R (.pointer (some (⟨P.size, 0, none⟩ : Addr))) Y)
theorem calls211 {h : Heap} {R : Value -> Heap -> Prop} (rP : Option Addr) (H : S211 rP h R) : CallsH Tryz.prog 211 #[.pointer rP] h R := by
 have e : S211 rP h R = FX (envX [29, 36] 48) { loops := [], joins := [], blocks := [], draws := [(3, ⟨1000021, true⟩)] } Tryz.f211 (Tryz.f211.body.getD .skip) [.pointer rP] h R := by kernel_rfl
 exact calls_of_FX (envX_ok _ _) Tryz.func211 (by kernel_rfl) (by kernel_rfl) (by kernel_rfl) (e ▸ H)
def S261 (key : Int) (key2 : Int) (key3 : ByteArray) (key4 : Nat) (fvP : Option Addr) (fvP2 : Option Addr) (fvP3 : Option Addr) (h : Heap) (R Rp : Value -> Heap -> Prop) : Prop :=
 let a : Heap := h.push (.cells #[.int .i64 key, .int .i64 key2, .string key3, .float .f64 key4] 156)
 cnd (key3.toList == (⟨#[105, 100]⟩ : ByteArray).toList)
  (∃ b o, fvP = some ⟨b, o, none⟩ /\ ∃ d : Option Nat, hcell a b o = some (.map d) /\ callP Tryz.prog 209 #[.map d, .agg #[.int .i64 key, .int .i64 key2, .string key3, .float .f64 key4]] a [h.size] (fun n f =>
  n = .tuple #[] /\
  let t : Heap := f.push (.cells #[.int .i64 4, .func (.func 262) #[] #[.pointer fvP2, .pointer fvP3], .nilFunc, .nilFunc] 193)
  R (.pointer (some (⟨f.size, 0, none⟩ : Addr))) t) Rp)
  (cnd (key3.toList == (⟨#[108, 97, 98, 101, 108]⟩ : ByteArray).toList)
   (∃ b2 o2, fvP = some ⟨b2, o2, none⟩ /\ ∃ k : Option Nat, hcell a b2 o2 = some (.map k) /\ callP Tryz.prog 209 #[.map k, .agg #[.int .i64 key, .int .i64 key2, .string key3, .float .f64 key4]] a [h.size] (fun s g =>
   s = .tuple #[] /\
   let q : Heap := g.push (.cells #[.int .i64 5, .func (.func 263) #[] #[.pointer fvP2, .pointer fvP3], .nilFunc, .nilFunc] 193)
   R (.pointer (some (⟨g.size, 0, none⟩ : Addr))) q) Rp)
   (cnd (key3.toList == (⟨#[103, 114, 97, 112, 104, 105, 99, 115]⟩ : ByteArray).toList)
    (∃ b3 o3, fvP = some ⟨b3, o3, none⟩ /\ ∃ j : Option Nat, hcell a b3 o3 = some (.map j) /\ callP Tryz.prog 209 #[.map j, .agg #[.int .i64 key, .int .i64 key2, .string key3, .float .f64 key4]] a [h.size] (fun r c =>
    r = .tuple #[] /\
    ∃ b4 o4, fvP2 = some ⟨b4, o4, none⟩ /\ ∃ l : Option Addr, hcell c b4 o4 = some (.pointer l) /\ ∃ b5 o5, fvP3 = some ⟨b5, o5, none⟩ /\ ∃ e : Int, hcell c b5 o5 = some (.int .i64 e) /\ callX Tryz.prog 264 #[.pointer l, .int .i64 e] c [h.size] fun m p =>
    ∃ i : Option Addr, m = .pointer i /\
    R (.pointer i) p) Rp)
    (R (.pointer none) a)))
theorem calls261 {h : Heap} {R Rp : Value -> Heap -> Prop} (key : Int) (key2 : Int) (key3 : ByteArray) (key4 : Nat) (fvP : Option Addr) (fvP2 : Option Addr) (fvP3 : Option Addr) (H : S261 key key2 key3 key4 fvP fvP2 fvP3 h R Rp) : CallsP Tryz.prog 261 #[.agg #[.int .i64 key, .int .i64 key2, .string key3, .float .f64 key4], .pointer fvP, .pointer fvP2, .pointer fvP3] h R Rp := by
 have e : S261 key key2 key3 key4 fvP fvP2 fvP3 h R Rp = FX (envP [4] 32 Rp) { loops := [], joins := [], blocks := [], draws := [] } Tryz.f261 (Tryz.f261.body.getD .skip) [.agg #[.int .i64 key, .int .i64 key2, .string key3, .float .f64 key4], .pointer fvP, .pointer fvP2, .pointer fvP3] h R := by kernel_rfl
 exact calls_of_FXp (envP_ok _ _ _) Tryz.func261 (by kernel_rfl) (by kernel_rfl) (by kernel_rfl) rfl (e ▸ H)
def S262 (x : Int) (x2 : Int) (x3 : ByteArray) (x4 : Nat) (fvP : Option Addr) (fvP2 : Option Addr) (h : Heap) (R Rp : Value -> Heap -> Prop) : Prop :=
 let A : Heap := h.push (.cells #[.int .i64 x, .int .i64 x2, .string x3, .float .f64 x4] 156)
 callP Tryz.prog 112 #[.agg #[.int .i64 x, .int .i64 x2, .string x3, .float .f64 x4]] A [h.size] (fun s f =>
 ∃ a : Int, s = .int .i64 a /\
 let k := fun (v : Bool) (t : Heap) =>
  (callP Tryz.prog 58 #[.bool (!v), .int .i64 x2, .int .i64 18] t [h.size] (fun z d =>
  z = .tuple #[] /\
  ∃ b3 o3, fvP = some ⟨b3, o3, none⟩ /\ ∃ n : Option Addr, hcell d b3 o3 = some (.pointer n) /\ ∃ b4 o4, n = some ⟨b4, o4, none⟩ /\ ∃ q : Option Nat, hcell d b4 (o4 + 10) = some (.map q) /\ ∃ b5 o5, fvP2 = some ⟨b5, o5, none⟩ /\ ∃ i : Int, hcell d b5 o5 = some (.int .i64 i) /\ ∃ g, q = some g /\ g ≠ h.size /\ ∃ es2 c2, hmap d g = some (es2, c2) /\ keysB tiInt es2 /\
  (∀ (r : Nat) (p : MapEntry), es2[r]? = some p -> p.key = .int .i64 a ->
   let u : Heap := hput d g (es2.modify r fun e => { e with key := .int .i64 a, val := .int .i64 i }) c2
   R (.tuple #[]) u) /\
  ((∀ e ∈ es2.toList, e.key ≠ .int .i64 a) ->
   let y : Heap := hput d g (es2.push ⟨.int .i64 a, .int .i64 i, c2⟩) (c2 + 1)
   R (.tuple #[]) y)) Rp)
 ∃ b o, fvP = some ⟨b, o, none⟩ /\ ∃ m : Option Addr, hcell f b o = some (.pointer m) /\ ∃ b2 o2, m = some ⟨b2, o2, none⟩ /\ ∃ l : Option Nat, hcell f b2 (o2 + 10) = some (.map l) /\ ∃ j, l = some j /\ ∃ es c, hmap f j = some (es, c) /\ keysB tiInt es /\
 (∀ ev ∈ es.toList, ev.key = .int .i64 a ->
  ∃ w : Int, ev.val = .int .i64 w /\ k true f) /\
 ((∀ e ∈ es.toList, e.key ≠ .int .i64 a) ->
  k false f)) Rp
theorem calls262 {h : Heap} {R Rp : Value -> Heap -> Prop} (x : Int) (x2 : Int) (x3 : ByteArray) (x4 : Nat) (fvP : Option Addr) (fvP2 : Option Addr) (H : S262 x x2 x3 x4 fvP fvP2 h R Rp) : CallsP Tryz.prog 262 #[.agg #[.int .i64 x, .int .i64 x2, .string x3, .float .f64 x4], .pointer fvP, .pointer fvP2] h R Rp := by
 have e : S262 x x2 x3 x4 fvP fvP2 h R Rp = FX (envP [3] 29 Rp) { loops := [], joins := [], blocks := [], draws := [(4, ⟨6, false⟩)] } Tryz.f262 (Tryz.f262.body.getD .skip) [.agg #[.int .i64 x, .int .i64 x2, .string x3, .float .f64 x4], .pointer fvP, .pointer fvP2] h R := by kernel_rfl
 exact calls_of_FXp (envP_ok _ _ _) Tryz.func262 (by kernel_rfl) (by kernel_rfl) (by kernel_rfl) rfl (e ▸ H)
def S263 (x : Int) (x2 : Int) (x3 : ByteArray) (x4 : Nat) (fvP : Option Addr) (fvP2 : Option Addr) (h : Heap) (R Rp : Value -> Heap -> Prop) : Prop :=
 let u : Heap := h.push (.cells #[.int .i64 x, .int .i64 x2, .string x3, .float .f64 x4] 156)
 callP Tryz.prog 58 #[.bool (decide (((x3.size : Nat) : Int) <= (256 : Int))), .int .i64 x2, .int .i64 23] u [h.size] (fun s g =>
 s = .tuple #[] /\
 callX Tryz.prog 68 #[.string x3] g [h.size] fun t p =>
 ∃ i : Bool, t = .bool i /\
 Fr [] g p /\
 callP Tryz.prog 58 #[.bool i, .int .i64 x2, .int .i64 25] p [h.size] (fun r a =>
 r = .tuple #[] /\
 Fr [] g a /\
 ∃ e : List Nat, (∀ b ∈ ([h.size] : List Nat), b ∉ e) /\
 ∃ b o, fvP = some ⟨b, o, none⟩ /\ ∃ n : Option Addr, hcell a b o = some (.pointer n) /\ ∃ b2 o2, n = some ⟨b2, o2, none⟩ /\ ∃ (l : Option Addr) (k q : Nat), hcell a b2 (o2 + 11) = some (.slice l k q) /\ ∃ b3 o3, fvP2 = some ⟨b3, o3, none⟩ /\ ∃ c : Int, hcell a b3 o3 = some (.int .i64 c) /\ ∃ b4 o4, fvP = some ⟨b4, o4, none⟩ /\ b4 ∉ e /\ ∃ j : Option Addr, hcell a b4 o4 = some (.pointer j) /\ ∃ b5 o5, l = some ⟨b5, o5, none⟩ /\ 0 <= c /\ c < (k : Nat) /\ ∃ b6 o6, j = some ⟨b6, o6, none⟩ /\ b5 ≠ h.size /\ (∃ f, hcell a b5 (o5 + (Int.toNat c) * 1) = some f) /\ hfree a b5 (o5 + (Int.toNat c) * 1) = true /\ let d : Heap := hset a b5 (o5 + (Int.toNat c) * 1) (.string x3)
 Fr e a d /\
 b6 ≠ h.size /\ (∃ f, hcell d b6 ((o6 + 14) + 0) = some f) /\ hfree d b6 ((o6 + 14) + 0) = true /\ let m : Heap := hset d b6 ((o6 + 14) + 0) (.bool true)
 Fr e a m /\
 R (.tuple #[]) m) Rp) Rp
theorem calls263 {h : Heap} {R Rp : Value -> Heap -> Prop} (x : Int) (x2 : Int) (x3 : ByteArray) (x4 : Nat) (fvP : Option Addr) (fvP2 : Option Addr) (H : S263 x x2 x3 x4 fvP fvP2 h R Rp) : CallsP Tryz.prog 263 #[.agg #[.int .i64 x, .int .i64 x2, .string x3, .float .f64 x4], .pointer fvP, .pointer fvP2] h R Rp := by
 have e : S263 x x2 x3 x4 fvP fvP2 h R Rp = FX (envP [3] 29 Rp) { loops := [], joins := [], blocks := [], draws := [(2, ⟨6, false⟩), (3, ⟨14, true⟩)] } Tryz.f263 (Tryz.f263.body.getD .skip) [.agg #[.int .i64 x, .int .i64 x2, .string x3, .float .f64 x4], .pointer fvP, .pointer fvP2] h R := by kernel_rfl
 exact calls_of_FXp (envP_ok _ _ _) Tryz.func263 (by kernel_rfl) (by kernel_rfl) (by kernel_rfl) rfl (e ▸ H)
def S264 (rP : Option Addr) (v : Int) (h : Heap) (R : Value -> Heap -> Prop) : Prop :=
 let e : Heap := h.push (.cells #[.pointer rP] 89)
 let c : Heap := e.push (.cells #[.int .i64 v] 3)
 let a : Heap := c.push (.map #[] 0)
 let b : Heap := a.push (.cells #[.map none] 69)
 (∃ g, hcell b a.size 0 = some g) /\ hfree b a.size 0 = true /\ let d : Heap := hset b a.size 0 (.map (some c.size))
 let f : Heap := d.push (.cells #[.int .i64 1, .nilFunc, .func (.func 317) #[] #[.pointer (some (⟨a.size, 0, none⟩ : Addr)), .pointer (some (⟨h.size, 0, none⟩ : Addr)), .pointer (some (⟨e.size, 0, none⟩ : Addr))], .func (.func 151) #[] #[]] 193)
 R (.pointer (some (⟨d.size, 0, none⟩ : Addr))) f
theorem calls264 {h : Heap} {R : Value -> Heap -> Prop} (rP : Option Addr) (v : Int) (H : S264 rP v h R) : CallsH Tryz.prog 264 #[.pointer rP, .int .i64 v] h R := by
 have e : S264 rP v h R = FX (envX [] 12) { loops := [], joins := [], blocks := [], draws := [] } Tryz.f264 (Tryz.f264.body.getD .skip) [.pointer rP, .int .i64 v] h R := by kernel_rfl
 exact calls_of_FX (envX_ok _ _) Tryz.func264 (by kernel_rfl) (by kernel_rfl) (by kernel_rfl) (e ▸ H)
def S265 (atv : Int) (fvP : Option Addr) (h : Heap) (R Rp : Value -> Heap -> Prop) : Prop :=
 ∃ b o, fvP = some ⟨b, o, none⟩ /\ ∃ a : Option Nat, hcell h b o = some (.map a) /\ ∃ f, a = some f /\ ∃ es c, hmap h f = some (es, c) /\ keysB tiStr es /\
 (∀ ev ∈ es.toList, ev.key = .string (⟨#[105, 100]⟩ : ByteArray) ->
  ∃ d : Int, ev.val = .int .i64 d /\ callP Tryz.prog 58 #[.bool (d == (1 : Int)), .int .i64 atv, .int .i64 14] h [] (fun i k =>
  i = .tuple #[] /\
  R (.tuple #[]) k) Rp) /\
 ((∀ e ∈ es.toList, e.key ≠ .string (⟨#[105, 100]⟩ : ByteArray)) ->
  callP Tryz.prog 58 #[.bool ((0 : Int) == (1 : Int)), .int .i64 atv, .int .i64 14] h [] (fun j g =>
  j = .tuple #[] /\
  R (.tuple #[]) g) Rp)
theorem calls265 {h : Heap} {R Rp : Value -> Heap -> Prop} (atv : Int) (fvP : Option Addr) (H : S265 atv fvP h R Rp) : CallsP Tryz.prog 265 #[.int .i64 atv, .pointer fvP] h R Rp := by
 have e : S265 atv fvP h R Rp = FX (envP [] 8 Rp) { loops := [], joins := [], blocks := [], draws := [] } Tryz.f265 (Tryz.f265.body.getD .skip) [.int .i64 atv, .pointer fvP] h R := by kernel_rfl
 exact calls_of_FXp (envP_ok _ _ _) Tryz.func265 (by kernel_rfl) (by kernel_rfl) (by kernel_rfl) rfl (e ▸ H)
def S212 (rP : Option Addr) (h : Heap) (R : Value -> Heap -> Prop) : Prop :=
 let i : Heap := h.push (.cells #[.pointer rP] 89)
 ∃ B : Option Addr, hcell i h.size 0 = some (.pointer B) /\ ∃ b o, B = some ⟨b, o, none⟩ /\ ∃ (G : Option Addr) (y F : Nat), hcell i b (o + 17) = some (.slice G y F) /\ let u : Heap := i.push (.cells #[.int .i64 0] 3)
 (∃ e, hcell u i.size 0 = some e) /\ hfree u i.size 0 = true /\ let a : Heap := hset u i.size 0 (.int .i64 ((y : Nat) : Int))
 ∃ k : List Nat, (∀ b ∈ ([] : List Nat), b ∉ k) /\
 h.size ∉ k /\ ∃ v : Option Addr, hcell a h.size 0 = some (.pointer v) /\ h.size ∉ k /\ ∃ E : Option Addr, hcell a h.size 0 = some (.pointer E) /\ ∃ b2 o2, E = some ⟨b2, o2, none⟩ /\ b2 ∉ k /\ ∃ (m : Option Addr) (g r : Nat), hcell a b2 (o2 + 17) = some (.slice m g r) /\ let q : Heap := a.push (.cells #[.int .i64 0, .int .i64 0, .string ByteArray.empty, .float .f64 0, .int .i64 0, .int .i64 0, .string ByteArray.empty, .float .f64 0] 156)
 Fr k a q /\
 ∃ C, Ownd q 156 4 m g r C /\ (∀ b ∈ ([a.size] : List Nat), b ∉ blkOf m) /\ (g + 2) * 40 <= 140737488355328 /\ (g + 2) <= maxLen /\
 ∀ sA sC hv5, Ownd hv5 156 4 sA (g + 2) sC (C ++ [.int .i64 0, .int .i64 0, .string ByteArray.empty, .float .f64 0, .int .i64 0, .int .i64 0, .string ByteArray.empty, .float .f64 0]) -> Fr (blkOf m) q hv5 -> ((sA = m /\ sC = r) \/ ∃ l, sA = some ⟨l, 0, none⟩ /\ q.size <= l) -> (r < (g + 2) -> Fr [] q hv5) ->
 Fr k a hv5 /\
 ∃ b3 o3, v = some ⟨b3, o3, none⟩ /\ b3 ≠ a.size /\ (∃ e, hcell hv5 b3 (o3 + 17) = some e) /\ hfree hv5 b3 (o3 + 17) = true /\ let c : Heap := hset hv5 b3 (o3 + 17) (.slice sA (g + 2) sC)
 ∃ j : List Nat, (∀ b ∈ ([a.size] : List Nat), b ∉ j) /\
 h.size ∉ j /\ ∃ A : Option Addr, hcell c h.size 0 = some (.pointer A) /\ h.size ∉ j /\ ∃ w : Option Addr, hcell c h.size 0 = some (.pointer w) /\ ∃ b4 o4, w = some ⟨b4, o4, none⟩ /\ b4 ∉ j /\ ∃ (p : Option Addr) (f s : Nat), hcell c b4 (o4 + 13) = some (.slice p f s) /\ let n : Heap := c.push (.cells #[.float .f64 4607182418800017408] 76)
 Fr j c n /\
 ∃ x, Ownd n 76 1 p f s x /\ (∀ b ∈ ([c.size, a.size] : List Nat), b ∉ blkOf p) /\ (f + 1) * 8 <= 140737488355328 /\ (f + 1) <= maxLen /\
 ∀ sA2 sC2 hv8, Ownd hv8 76 1 sA2 (f + 1) sC2 (x ++ [.float .f64 4607182418800017408]) -> Fr (blkOf p) n hv8 -> ((sA2 = p /\ sC2 = s) \/ ∃ l, sA2 = some ⟨l, 0, none⟩ /\ n.size <= l) -> (s < (f + 1) -> Fr [] n hv8) ->
 Fr j c hv8 /\
 ∃ b5 o5, A = some ⟨b5, o5, none⟩ /\ b5 ≠ c.size /\ b5 ≠ a.size /\ (∃ e, hcell hv8 b5 (o5 + 13) = some e) /\ hfree hv8 b5 (o5 + 13) = true /\ let z : Heap := hset hv8 b5 (o5 + 13) (.slice sA2 (f + 1) sC2)
 let d : Heap := z.push (.map #[] 0)
 let t : Heap := d.push (.cells #[.map none] 69)
 d.size ≠ c.size /\ d.size ≠ a.size /\ (∃ e, hcell t d.size 0 = some e) /\ hfree t d.size 0 = true /\ let D : Heap := hset t d.size 0 (.map (some z.size))
 let H : Heap := D.push (.cells #[.int .i64 1, .nilFunc, .func (.func 266) #[] #[.pointer (some (⟨d.size, 0, none⟩ : Addr)), .pointer (some (⟨i.size, 0, none⟩ : Addr)), .pointer (some (⟨h.size, 0, none⟩ : Addr))], .func (.func 270) #[] #[.pointer (some (⟨d.size, 0, none⟩ : Addr))]] 193)
 R (.pointer (some (⟨D.size, 0, none⟩ : Addr))) H
theorem calls212 {h : Heap} {R : Value -> Heap -> Prop} (rP : Option Addr) (H : S212 rP h R) : CallsH Tryz.prog 212 #[.pointer rP] h R := by
 have e : S212 rP h R = FX (envX [18, 27] 37) { loops := [], joins := [], blocks := [], draws := [(2, ⟨9, true⟩), (3, ⟨7, true⟩)] } Tryz.f212 (Tryz.f212.body.getD .skip) [.pointer rP] h R := by kernel_rfl
 exact calls_of_FX (envX_ok _ _) Tryz.func212 (by kernel_rfl) (by kernel_rfl) (by kernel_rfl) (e ▸ H)
def S266 (key : Int) (key2 : Int) (key3 : ByteArray) (key4 : Nat) (fvP : Option Addr) (fvP2 : Option Addr) (fvP3 : Option Addr) (h : Heap) (R Rp : Value -> Heap -> Prop) : Prop :=
 let q : Heap := h.push (.cells #[.int .i64 key, .int .i64 key2, .string key3, .float .f64 key4] 156)
 let k := fun (t : Bool) (c : Heap) =>
  (cnd t
   (∃ b o, fvP = some ⟨b, o, none⟩ /\ ∃ l : Option Nat, hcell c b o = some (.map l) /\ callP Tryz.prog 209 #[.map l, .agg #[.int .i64 key, .int .i64 key2, .string key3, .float .f64 key4]] c [h.size] (fun u a =>
   u = .tuple #[] /\
   ∃ b2 o2, fvP2 = some ⟨b2, o2, none⟩ /\ ∃ j : Int, hcell a b2 o2 = some (.int .i64 j) /\ let i : Heap := a.push (.cells #[.int .i64 0] 3)
   a.size ≠ h.size /\ (∃ e, hcell i a.size 0 = some e) /\ hfree i a.size 0 = true /\ let d : Heap := hset i a.size 0 (.int .i64 j)
   ∃ f : List Value -> Heap -> Prop,
   ( cnd (key3.toList == (⟨#[116, 97, 114, 103, 101, 116]⟩ : ByteArray).toList)
     (∃ b3 o3, fvP2 = some ⟨b3, o3, none⟩ /\ ∃ m : Int, hcell d b3 o3 = some (.int .i64 m) /\ a.size ≠ h.size /\ (∃ e, hcell d a.size 0 = some e) /\ hfree d a.size 0 = true /\ let v : Heap := hset d a.size 0 (.int .i64 (IntKind.i64.wrap (m + (1 : Int))))
     f [] v)
     (f [] d)) /\
   ∀ g, f [] g ->
   let r : Heap := g.push (.cells #[.int .i64 4, .func (.func 267) #[] #[.pointer fvP3, .pointer (some (⟨a.size, 0, none⟩ : Addr))], .nilFunc, .nilFunc] 193)
   R (.pointer (some (⟨g.size, 0, none⟩ : Addr))) r) Rp)
   (cnd (key3.toList == (⟨#[119, 101, 105, 103, 104, 116]⟩ : ByteArray).toList)
    (∃ b4 o4, fvP = some ⟨b4, o4, none⟩ /\ ∃ p : Option Nat, hcell c b4 o4 = some (.map p) /\ callP Tryz.prog 209 #[.map p, .agg #[.int .i64 key, .int .i64 key2, .string key3, .float .f64 key4]] c [h.size] (fun w n =>
    w = .tuple #[] /\
    let s : Heap := n.push (.cells #[.int .i64 4, .func (.func 268) #[] #[.pointer fvP3, .pointer fvP2], .nilFunc, .nilFunc] 193)
    R (.pointer (some (⟨n.size, 0, none⟩ : Addr))) s) Rp)
    (R (.pointer none) c)))
 cnd (key3.toList == (⟨#[115, 111, 117, 114, 99, 101]⟩ : ByteArray).toList)
  (k (key3.toList == (⟨#[115, 111, 117, 114, 99, 101]⟩ : ByteArray).toList) q)
  (k (key3.toList == (⟨#[116, 97, 114, 103, 101, 116]⟩ : ByteArray).toList) q)
theorem calls266 {h : Heap} {R Rp : Value -> Heap -> Prop} (key : Int) (key2 : Int) (key3 : ByteArray) (key4 : Nat) (fvP : Option Addr) (fvP2 : Option Addr) (fvP3 : Option Addr) (H : S266 key key2 key3 key4 fvP fvP2 fvP3 h R Rp) : CallsP Tryz.prog 266 #[.agg #[.int .i64 key, .int .i64 key2, .string key3, .float .f64 key4], .pointer fvP, .pointer fvP2, .pointer fvP3] h R Rp := by
 have e : S266 key key2 key3 key4 fvP fvP2 fvP3 h R Rp = FX (envP [4] 32 Rp) { loops := [], joins := [(18, ⟨[3, 6], [], [], []⟩)], blocks := [], draws := [] } Tryz.f266 (Tryz.f266.body.getD .skip) [.agg #[.int .i64 key, .int .i64 key2, .string key3, .float .f64 key4], .pointer fvP, .pointer fvP2, .pointer fvP3] h R := by kernel_rfl
 exact calls_of_FXp (envP_ok _ _ _) Tryz.func266 (by kernel_rfl) (by kernel_rfl) (by kernel_rfl) rfl (e ▸ H)
def S267 (x : Int) (x2 : Int) (x3 : ByteArray) (x4 : Nat) (fvP : Option Addr) (fvP2 : Option Addr) (h : Heap) (R Rp : Value -> Heap -> Prop) : Prop :=
 let m : Heap := h.push (.cells #[.int .i64 x, .int .i64 x2, .string x3, .float .f64 x4] 156)
 callP Tryz.prog 112 #[.agg #[.int .i64 x, .int .i64 x2, .string x3, .float .f64 x4]] m [h.size] (fun j c =>
 ∃ i : Int, j = .int .i64 i /\
 ∃ b o, fvP = some ⟨b, o, none⟩ /\ ∃ f : Option Addr, hcell c b o = some (.pointer f) /\ ∃ b2 o2, f = some ⟨b2, o2, none⟩ /\ ∃ (e : Option Addr) (g l : Nat), hcell c b2 (o2 + 17) = some (.slice e g l) /\ ∃ b3 o3, fvP2 = some ⟨b3, o3, none⟩ /\ ∃ a : Int, hcell c b3 o3 = some (.int .i64 a) /\ ∃ b4 o4, e = some ⟨b4, o4, none⟩ /\ 0 <= a /\ a < (g : Nat) /\ b4 ≠ h.size /\ (∃ d, hcell c b4 (o4 + (Int.toNat a) * 4) = some d) /\ hfree c b4 (o4 + (Int.toNat a) * 4) = true /\ (∃ d, hcell c b4 ((o4 + (Int.toNat a) * 4) + 1) = some d) /\ hfree c b4 ((o4 + (Int.toNat a) * 4) + 1) = true /\ (∃ d, hcell c b4 (((o4 + (Int.toNat a) * 4) + 1) + 1) = some d) /\ hfree c b4 (((o4 + (Int.toNat a) * 4) + 1) + 1) = true /\ (∃ d, hcell c b4 ((((o4 + (Int.toNat a) * 4) + 1) + 1) + 1) = some d) /\ hfree c b4 ((((o4 + (Int.toNat a) * 4) + 1) + 1) + 1) = true /\ let k : Heap := hset (hset (hset (hset c b4 (o4 + (Int.toNat a) * 4) (.int .i64 x)) b4 ((o4 + (Int.toNat a) * 4) + 1) (.int .i64 x2)) b4 (((o4 + (Int.toNat a) * 4) + 1) + 1) (.string x3)) b4 ((((o4 + (Int.toNat a) * 4) + 1) + 1) + 1) (.float .f64 x4)
 R (.tuple #[]) k) Rp
theorem calls267 {h : Heap} {R Rp : Value -> Heap -> Prop} (x : Int) (x2 : Int) (x3 : ByteArray) (x4 : Nat) (fvP : Option Addr) (fvP2 : Option Addr) (H : S267 x x2 x3 x4 fvP fvP2 h R Rp) : CallsP Tryz.prog 267 #[.agg #[.int .i64 x, .int .i64 x2, .string x3, .float .f64 x4], .pointer fvP, .pointer fvP2] h R Rp := by
 have e : S267 x x2 x3 x4 fvP fvP2 h R Rp = FX (envP [3] 13 Rp) { loops := [], joins := [], blocks := [], draws := [(2, ⟨7, false⟩)] } Tryz.f267 (Tryz.f267.body.getD .skip) [.agg #[.int .i64 x, .int .i64 x2, .string x3, .float .f64 x4], .pointer fvP, .pointer fvP2] h R := by kernel_rfl
 exact calls_of_FXp (envP_ok _ _ _) Tryz.func267 (by kernel_rfl) (by kernel_rfl) (by kernel_rfl) rfl (e ▸ H)
def S268 (x : Int) (x2 : Int) (x3 : ByteArray) (x4 : Nat) (fvP : Option Addr) (fvP2 : Option Addr) (h : Heap) (R : Value -> Heap -> Prop) : Prop :=
 let a : Heap := h.push (.cells #[.int .i64 x, .int .i64 x2, .string x3, .float .f64 x4] 156)
 ∃ Mv Mv2 : List Nat, (∀ b ∈ Mv, b ∈ Mv2) /\ (∀ b ∈ ([h.size] : List Nat), b ∉ Mv2) /\
 ∃ b o, fvP = some ⟨b, o, none⟩ /\ b ∉ Mv /\ ∃ l : Option Addr, hcell a b o = some (.pointer l) /\ ∃ b2 o2, l = some ⟨b2, o2, none⟩ /\ b2 ∉ Mv /\ ∃ (g : Option Addr) (m p : Nat), hcell a b2 (o2 + 13) = some (.slice g m p) /\ ∃ b3 o3, fvP2 = some ⟨b3, o3, none⟩ /\ b3 ∉ Mv /\ ∃ c : Int, hcell a b3 o3 = some (.int .i64 c) /\ (2 : Int) ≠ 0 /\ ∃ b4 o4, fvP = some ⟨b4, o4, none⟩ /\ b4 ∉ Mv2 /\ ∃ j : Option Addr, hcell a b4 o4 = some (.pointer j) /\ ∃ b5 o5, j = some ⟨b5, o5, none⟩ /\ callX Tryz.prog 269 #[.float .f64 x4] a [h.size] fun n d =>
 ∃ i : Nat, n = .float .f64 i /\
 Fr Mv a d /\
 ∃ b6 o6, g = some ⟨b6, o6, none⟩ /\ 0 <= (IntKind.i64.wrap (Int.tdiv c (2 : Int))) /\ (IntKind.i64.wrap (Int.tdiv c (2 : Int))) < (m : Nat) /\ b6 ≠ h.size /\ (∃ f, hcell d b6 (o6 + (Int.toNat (IntKind.i64.wrap (Int.tdiv c (2 : Int)))) * 1) = some f) /\ hfree d b6 (o6 + (Int.toNat (IntKind.i64.wrap (Int.tdiv c (2 : Int)))) * 1) = true /\ let e : Heap := hset d b6 (o6 + (Int.toNat (IntKind.i64.wrap (Int.tdiv c (2 : Int)))) * 1) (.float .f64 i)
 Fr Mv2 a e /\
 b5 ≠ h.size /\ (∃ f, hcell e b5 ((o5 + 14) + 2) = some f) /\ hfree e b5 ((o5 + 14) + 2) = true /\ let k : Heap := hset e b5 ((o5 + 14) + 2) (.bool true)
 Fr Mv2 a k /\
 R (.tuple #[]) k
theorem calls268 {h : Heap} {R : Value -> Heap -> Prop} (x : Int) (x2 : Int) (x3 : ByteArray) (x4 : Nat) (fvP : Option Addr) (fvP2 : Option Addr) (H : S268 x x2 x3 x4 fvP fvP2 h R) : CallsH Tryz.prog 268 #[.agg #[.int .i64 x, .int .i64 x2, .string x3, .float .f64 x4], .pointer fvP, .pointer fvP2] h R := by
 have e : S268 x x2 x3 x4 fvP fvP2 h R = FX (envX [3] 18) { loops := [], joins := [], blocks := [], draws := [(1, ⟨1000016, true⟩)] } Tryz.f268 (Tryz.f268.body.getD .skip) [.agg #[.int .i64 x, .int .i64 x2, .string x3, .float .f64 x4], .pointer fvP, .pointer fvP2] h R := by kernel_rfl
 exact calls_of_FX (envX_ok _ _) Tryz.func268 (by kernel_rfl) (by kernel_rfl) (by kernel_rfl) (e ▸ H)
def S270 (atv : Int) (fvP : Option Addr) (h : Heap) (R Rp : Value -> Heap -> Prop) : Prop :=
 let a := fun (w : Heap) =>
  (R (.tuple #[]) w)
 let l : Prop :=
  (callP Tryz.prog 58 #[.bool ((0 : Int) == (1 : Int)), .int .i64 atv, .int .i64 14] h [] (fun y u =>
  y = .tuple #[] /\
  a u) Rp)
 let p : Prop :=
  (callP Tryz.prog 58 #[.bool false, .int .i64 atv, .int .i64 14] h [] (fun s v =>
  s = .tuple #[] /\
  a v) Rp)
 ∃ b o, fvP = some ⟨b, o, none⟩ /\ ∃ i : Option Nat, hcell h b o = some (.map i) /\ ∃ f, i = some f /\ ∃ es c, hmap h f = some (es, c) /\ keysB tiStr es /\
 (∀ ev ∈ es.toList, ev.key = .string (⟨#[115, 111, 117, 114, 99, 101]⟩ : ByteArray) ->
  ∃ d : Int, ev.val = .int .i64 d /\ cnd (d == (1 : Int))
   (∃ b2 o2, fvP = some ⟨b2, o2, none⟩ /\ ∃ q : Option Nat, hcell h b2 o2 = some (.map q) /\ ∃ j, q = some j /\ ∃ es2 c2, hmap h j = some (es2, c2) /\ keysB tiStr es2 /\
   (∀ ev2 ∈ es2.toList, ev2.key = .string (⟨#[116, 97, 114, 103, 101, 116]⟩ : ByteArray) ->
    ∃ n : Int, ev2.val = .int .i64 n /\ callP Tryz.prog 58 #[.bool (n == (1 : Int)), .int .i64 atv, .int .i64 14] h [] (fun t z =>
    t = .tuple #[] /\
    a z) Rp) /\
   ((∀ e ∈ es2.toList, e.key ≠ .string (⟨#[116, 97, 114, 103, 101, 116]⟩ : ByteArray)) ->
    l))
   (p)) /\
 ((∀ e ∈ es.toList, e.key ≠ .string (⟨#[115, 111, 117, 114, 99, 101]⟩ : ByteArray)) ->
  cnd ((0 : Int) == (1 : Int))
   (∃ b3 o3, fvP = some ⟨b3, o3, none⟩ /\ ∃ k : Option Nat, hcell h b3 o3 = some (.map k) /\ ∃ g, k = some g /\ ∃ es3 c3, hmap h g = some (es3, c3) /\ keysB tiStr es3 /\
   (∀ ev3 ∈ es3.toList, ev3.key = .string (⟨#[116, 97, 114, 103, 101, 116]⟩ : ByteArray) ->
    ∃ m : Int, ev3.val = .int .i64 m /\ callP Tryz.prog 58 #[.bool (m == (1 : Int)), .int .i64 atv, .int .i64 14] h [] (fun r x =>
    r = .tuple #[] /\
    a x) Rp) /\
   ((∀ e ∈ es3.toList, e.key ≠ .string (⟨#[116, 97, 114, 103, 101, 116]⟩ : ByteArray)) ->
    l))
   (p))
theorem calls270 {h : Heap} {R Rp : Value -> Heap -> Prop} (atv : Int) (fvP : Option Addr) (H : S270 atv fvP h R Rp) : CallsP Tryz.prog 270 #[.int .i64 atv, .pointer fvP] h R Rp := by
 have e : S270 atv fvP h R Rp = FX (envP [] 13 Rp) { loops := [], joins := [], blocks := [], draws := [] } Tryz.f270 (Tryz.f270.body.getD .skip) [.int .i64 atv, .pointer fvP] h R := by kernel_rfl
 exact calls_of_FXp (envP_ok _ _ _) Tryz.func270 (by kernel_rfl) (by kernel_rfl) (by kernel_rfl) rfl (e ▸ H)
def S317 (key : Int) (key2 : Int) (key3 : ByteArray) (key4 : Nat) (fvP : Option Addr) (fvP2 : Option Addr) (fvP3 : Option Addr) (h : Heap) (R Rp : Value -> Heap -> Prop) : Prop :=
 let k : Heap := h.push (.cells #[.int .i64 key, .int .i64 key2, .string key3, .float .f64 key4] 156)
 let m := fun (s : Heap) =>
  (∃ b o, fvP = some ⟨b, o, none⟩ /\ ∃ p : Option Nat, hcell s b o = some (.map p) /\ callP Tryz.prog 209 #[.map p, .agg #[.int .i64 key, .int .i64 key2, .string key3, .float .f64 key4]] s [h.size] (fun y a =>
  y = .tuple #[] /\
  ∃ b2 o2, fvP2 = some ⟨b2, o2, none⟩ /\ ∃ u : Option Addr, hcell a b2 o2 = some (.pointer u) /\ ∃ b3 o3, u = some ⟨b3, o3, none⟩ /\ ∃ (q : Option Addr) (n w : Nat), hcell a b3 (o3 + 12) = some (.slice q n w) /\ ∃ b4 o4, fvP3 = some ⟨b4, o4, none⟩ /\ ∃ e : Int, hcell a b4 o4 = some (.int .i64 e) /\ ∃ b5 o5, q = some ⟨b5, o5, none⟩ /\ 0 <= e /\ e < (n : Nat) /\ let f : Heap := a.push (.cells #[.pointer none] 340)
  Fr [] a f /\
  a.size ≠ h.size /\ (∃ g, hcell f a.size 0 = some g) /\ hfree f a.size 0 = true /\ let c : Heap := hset f a.size 0 (.pointer (some (⟨b5, (o5 + (Int.toNat e) * 2), none⟩ : Addr)))
  ∃ j : List Value -> Heap -> Prop,
  ( cnd (key3.toList == (⟨#[121]⟩ : ByteArray).toList)
    (∃ b6 o6, fvP2 = some ⟨b6, o6, none⟩ /\ ∃ l : Option Addr, hcell c b6 o6 = some (.pointer l) /\ ∃ b7 o7, l = some ⟨b7, o7, none⟩ /\ ∃ (r : Option Addr) (t x : Nat), hcell c b7 (o7 + 12) = some (.slice r t x) /\ ∃ b8 o8, fvP3 = some ⟨b8, o8, none⟩ /\ ∃ d : Int, hcell c b8 o8 = some (.int .i64 d) /\ ∃ b9 o9, r = some ⟨b9, o9, none⟩ /\ 0 <= d /\ d < (t : Nat) /\ a.size ≠ h.size /\ (∃ g, hcell c a.size 0 = some g) /\ hfree c a.size 0 = true /\ let z : Heap := hset c a.size 0 (.pointer (some (⟨b9, ((o9 + (Int.toNat d) * 2) + 1), none⟩ : Addr)))
    j [] z)
    (j [] c)) /\
  ∀ i, j [] i ->
  let v : Heap := i.push (.cells #[.int .i64 4, .func (.func 318) #[] #[.pointer (some (⟨a.size, 0, none⟩ : Addr)), .pointer fvP2], .nilFunc, .nilFunc] 193)
  R (.pointer (some (⟨i.size, 0, none⟩ : Addr))) v) Rp)
 cnd (!(key3.toList == (⟨#[120]⟩ : ByteArray).toList))
  (cnd (!(key3.toList == (⟨#[121]⟩ : ByteArray).toList))
   (R (.pointer none) k)
   (m k))
  (m k)
theorem calls317 {h : Heap} {R Rp : Value -> Heap -> Prop} (key : Int) (key2 : Int) (key3 : ByteArray) (key4 : Nat) (fvP : Option Addr) (fvP2 : Option Addr) (fvP3 : Option Addr) (H : S317 key key2 key3 key4 fvP fvP2 fvP3 h R Rp) : CallsP Tryz.prog 317 #[.agg #[.int .i64 key, .int .i64 key2, .string key3, .float .f64 key4], .pointer fvP, .pointer fvP2, .pointer fvP3] h R Rp := by
 have e : S317 key key2 key3 key4 fvP fvP2 fvP3 h R Rp = FX (envP [4] 38 Rp) { loops := [], joins := [(27, ⟨[2, 6], [], [], []⟩)], blocks := [], draws := [(4, ⟨8, false⟩), (6, ⟨7, false⟩)] } Tryz.f317 (Tryz.f317.body.getD .skip) [.agg #[.int .i64 key, .int .i64 key2, .string key3, .float .f64 key4], .pointer fvP, .pointer fvP2, .pointer fvP3] h R := by kernel_rfl
 exact calls_of_FXp (envP_ok _ _ _) Tryz.func317 (by kernel_rfl) (by kernel_rfl) (by kernel_rfl) rfl (e ▸ H)
def S318 (x : Int) (x2 : Int) (x3 : ByteArray) (x4 : Nat) (fvP : Option Addr) (fvP2 : Option Addr) (h : Heap) (R : Value -> Heap -> Prop) : Prop :=
 let a : Heap := h.push (.cells #[.int .i64 x, .int .i64 x2, .string x3, .float .f64 x4] 156)
 ∃ c : List Nat, (∀ b ∈ ([h.size] : List Nat), b ∉ c) /\
 ∃ b o, fvP = some ⟨b, o, none⟩ /\ b ∉ c /\ ∃ k : Option Addr, hcell a b o = some (.pointer k) /\ ∃ b2 o2, fvP2 = some ⟨b2, o2, none⟩ /\ b2 ∉ c /\ ∃ i : Option Addr, hcell a b2 o2 = some (.pointer i) /\ ∃ b3 o3, i = some ⟨b3, o3, none⟩ /\ callX Tryz.prog 269 #[.float .f64 x4] a [h.size] fun l d =>
 ∃ g : Nat, l = .float .f64 g /\
 Fr c a d /\
 ∃ b4 o4, k = some ⟨b4, o4, none⟩ /\ b4 ≠ h.size /\ (∃ f, hcell d b4 o4 = some f) /\ hfree d b4 o4 = true /\ let e : Heap := hset d b4 o4 (.float .f64 g)
 Fr c a e /\
 b3 ≠ h.size /\ (∃ f, hcell e b3 ((o3 + 14) + 1) = some f) /\ hfree e b3 ((o3 + 14) + 1) = true /\ let j : Heap := hset e b3 ((o3 + 14) + 1) (.bool true)
 Fr c a j /\
 R (.tuple #[]) j
theorem calls318 {h : Heap} {R : Value -> Heap -> Prop} (x : Int) (x2 : Int) (x3 : ByteArray) (x4 : Nat) (fvP : Option Addr) (fvP2 : Option Addr) (H : S318 x x2 x3 x4 fvP fvP2 h R) : CallsH Tryz.prog 318 #[.agg #[.int .i64 x, .int .i64 x2, .string x3, .float .f64 x4], .pointer fvP, .pointer fvP2] h R := by
 have e : S318 x x2 x3 x4 fvP fvP2 h R = FX (envX [3] 13) { loops := [], joins := [], blocks := [], draws := [(1, ⟨11, true⟩)] } Tryz.f318 (Tryz.f318.body.getD .skip) [.agg #[.int .i64 x, .int .i64 x2, .string x3, .float .f64 x4], .pointer fvP, .pointer fvP2] h R := by kernel_rfl
 exact calls_of_FX (envX_ok _ _) Tryz.func318 (by kernel_rfl) (by kernel_rfl) (by kernel_rfl) (e ▸ H)
def S111 (rP : Option Addr) (key : Int) (key2 : Int) (key3 : ByteArray) (key4 : Nat) (h : Heap) (R Rp : Value -> Heap -> Prop) : Prop :=
 let e : Heap := h.push (.cells #[.pointer rP] 89)
 let c : Heap := e.push (.cells #[.int .i64 key, .int .i64 key2, .string key3, .float .f64 key4] 156)
 cnd (!(key3.toList == (⟨#[103, 114, 97, 112, 104]⟩ : ByteArray).toList))
  (R (.pointer none) c)
  (∃ m : Option Addr, hcell c h.size 0 = some (.pointer m) /\ ∃ b o, m = some ⟨b, o, none⟩ /\ ∃ j : Bool, hcell c b (o + 9) = some (.bool j) /\ callP Tryz.prog 58 #[.bool (!j), .int .i64 key2, .int .i64 18] c [e.size] (fun p d =>
  p = .tuple #[] /\
  Fr [] c d /\
  ∃ i : Option Addr, hcell d h.size 0 = some (.pointer i) /\ ∃ b2 o2, i = some ⟨b2, o2, none⟩ /\ b2 ≠ e.size /\ (∃ f, hcell d b2 (o2 + 9) = some f) /\ hfree d b2 (o2 + 9) = true /\ let l : Heap := hset d b2 (o2 + 9) (.bool true)
  let a : Heap := l.push (.map #[] 0)
  let g : Heap := a.push (.cells #[.map none] 69)
  a.size ≠ e.size /\ (∃ f, hcell g a.size 0 = some f) /\ hfree g a.size 0 = true /\ let k : Heap := hset g a.size 0 (.map (some l.size))
  let n : Heap := k.push (.cells #[.int .i64 1, .nilFunc, .func (.func 152) #[] #[.pointer (some (⟨h.size, 0, none⟩ : Addr)), .pointer (some (⟨a.size, 0, none⟩ : Addr))], .func (.func 151) #[] #[]] 193)
  R (.pointer (some (⟨k.size, 0, none⟩ : Addr))) n) Rp)
theorem calls111 {h : Heap} {R Rp : Value -> Heap -> Prop} (rP : Option Addr) (key : Int) (key2 : Int) (key3 : ByteArray) (key4 : Nat) (H : S111 rP key key2 key3 key4 h R Rp) : CallsP Tryz.prog 111 #[.pointer rP, .agg #[.int .i64 key, .int .i64 key2, .string key3, .float .f64 key4]] h R Rp := by
 have e : S111 rP key key2 key3 key4 h R Rp = FX (envP [3] 24 Rp) { loops := [], joins := [], blocks := [], draws := [(3, ⟨8, false⟩)] } Tryz.f111 (Tryz.f111.body.getD .skip) [.pointer rP, .agg #[.int .i64 key, .int .i64 key2, .string key3, .float .f64 key4]] h R := by kernel_rfl
 exact calls_of_FXp (envP_ok _ _ _) Tryz.func111 (by kernel_rfl) (by kernel_rfl) (by kernel_rfl) rfl (e ▸ H)
def S151 (x : Int) (h : Heap) (R : Value -> Heap -> Prop) : Prop :=
 R (.tuple #[]) h
theorem calls151 {h : Heap} {R : Value -> Heap -> Prop} (x : Int) (H : S151 x h R) : CallsH Tryz.prog 151 #[.int .i64 x] h R := by
 have e : S151 x h R = FX (envX [] 2) { loops := [], joins := [], blocks := [], draws := [] } Tryz.f151 (Tryz.f151.body.getD .skip) [.int .i64 x] h R := by kernel_rfl
 exact calls_of_FX (envX_ok _ _) Tryz.func151 (by kernel_rfl) (by kernel_rfl) (by kernel_rfl) (e ▸ H)
def S110 (rP : Option Addr) (top : Bool) (keyF : Fn) (keyX keyY : Array Value) (h : Heap) (R Rp : Value -> Heap -> Prop) : Prop :=
 ∃ (g : List Value -> Heap -> Prop) (s : List Value -> Heap -> Nat), g [] h /\
 ∀ l, g [] l ->
 ∃ b o, rP = some ⟨b, o, none⟩ /\ callP Tryz.prog 149 #[.pointer (some (⟨b, o, none⟩ : Addr))] l [] (fun x c =>
 ∃ a : Int, ∃ d : Int, ∃ j : ByteArray, ∃ i : Nat, x = .agg #[.int .i64 a, .int .i64 d, .string j, .float .f64 i] /\
 let t : Heap := c.push (.cells #[.int .i64 0, .int .i64 0, .string ByteArray.empty, .float .f64 0] 156)
 let e : Heap := hset (hset (hset (hset t c.size 0 (.int .i64 a)) c.size (0 + 1) (.int .i64 d)) c.size ((0 + 1) + 1) (.string j)) c.size (((0 + 1) + 1) + 1) (.float .f64 i)
 let f := fun (u : Heap) =>
  (callP Tryz.prog 58 #[.bool (a == (3 : Int)), .int .i64 d, .int .i64 15] u [c.size] (fun z p =>
  z = .tuple #[] /\
  ∃ k : List Value -> Heap -> Prop,
  ( cnd (!false)
    (callV Tryz.prog fnsX fnsP (some Rp) keyF keyX keyY [.agg #[.int .i64 a, .int .i64 d, .string j, .float .f64 i]] p [c.size] fun v y =>
    ∃ r : Option Addr, v = .pointer r /\
    k [.pointer r] y)
    (k [.pointer none] p)) /\
  ∀ q : Option Addr, ∀ m, k [.pointer q] m ->
  callP Tryz.prog 150 #[.pointer rP, .pointer q] m [] (fun w n =>
  w = .tuple #[] /\
  g [] n /\ s [] n < s [] l) Rp) Rp)
 cnd top
  (cnd (a == (0 : Int))
   (R (.int .i64 d) e)
   (cnd (!top)
    (cnd (a == (2 : Int))
     (R (.int .i64 d) e)
     (f e))
    (f e)))
  (cnd (!top)
   (cnd (a == (2 : Int))
    (R (.int .i64 d) e)
    (f e))
   (f e))) Rp
theorem calls110 {h : Heap} {R Rp : Value -> Heap -> Prop} (rP : Option Addr) (top : Bool) (keyF : Fn) (keyX keyY : Array Value) (H : S110 rP top keyF keyX keyY h R Rp) : CallsP Tryz.prog 110 #[.pointer rP, .bool top, .func keyF keyX keyY] h R Rp := by
 have e : S110 rP top keyF keyX keyY h R Rp = FX (envP [7] 44 Rp) { loops := [(0, ⟨[0, 1, 2], [], [], []⟩)], joins := [(37, ⟨[0, 1, 2], [8], [], []⟩)], blocks := [], draws := [] } Tryz.f110 (Tryz.f110.body.getD .skip) [.pointer rP, .bool top, .func keyF keyX keyY] h R := by kernel_rfl
 exact calls_of_FXp (envP_ok _ _ _) Tryz.func110 (by kernel_rfl) (by kernel_rfl) (by kernel_rfl) rfl (e ▸ H)
def S110n (rP : Option Addr) (top : Bool) (h : Heap) (R Rp : Value -> Heap -> Prop) : Prop :=
 ∃ (g : List Value -> Heap -> Prop) (n : List Value -> Heap -> Nat), g [] h /\
 ∀ i, g [] i ->
 ∃ b o, rP = some ⟨b, o, none⟩ /\ callP Tryz.prog 149 #[.pointer (some (⟨b, o, none⟩ : Addr))] i [] (fun s d =>
 ∃ c : Int, ∃ e : Int, ∃ p : ByteArray, ∃ k : Nat, s = .agg #[.int .i64 c, .int .i64 e, .string p, .float .f64 k] /\
 let t : Heap := d.push (.cells #[.int .i64 0, .int .i64 0, .string ByteArray.empty, .float .f64 0] 156)
 let a : Heap := hset (hset (hset (hset t d.size 0 (.int .i64 c)) d.size (0 + 1) (.int .i64 e)) d.size ((0 + 1) + 1) (.string p)) d.size (((0 + 1) + 1) + 1) (.float .f64 k)
 let f := fun (u : Heap) =>
  (callP Tryz.prog 58 #[.bool (c == (3 : Int)), .int .i64 e, .int .i64 15] u [d.size] (fun w v =>
  w = .tuple #[] /\
  ∃ l : List Value -> Heap -> Prop,
  ( cnd (!true)
    (False)
    (l [.pointer none] v)) /\
  ∀ m : Option Addr, ∀ q, l [.pointer m] q ->
  callP Tryz.prog 150 #[.pointer rP, .pointer m] q [] (fun r j =>
  r = .tuple #[] /\
  g [] j /\ n [] j < n [] i) Rp) Rp)
 cnd top
  (cnd (c == (0 : Int))
   (R (.int .i64 e) a)
   (cnd (!top)
    (cnd (c == (2 : Int))
     (R (.int .i64 e) a)
     (f a))
    (f a)))
  (cnd (!top)
   (cnd (c == (2 : Int))
    (R (.int .i64 e) a)
    (f a))
   (f a))) Rp
theorem calls110n {h : Heap} {R Rp : Value -> Heap -> Prop} (rP : Option Addr) (top : Bool) (H : S110n rP top h R Rp) : CallsP Tryz.prog 110 #[.pointer rP, .bool top, .nilFunc] h R Rp := by
 have e : S110n rP top h R Rp = FX (envP [7] 44 Rp) { loops := [(0, ⟨[0, 1, 2], [], [], []⟩)], joins := [(37, ⟨[0, 1, 2], [8], [], []⟩)], blocks := [], draws := [] } Tryz.f110 (Tryz.f110.body.getD .skip) [.pointer rP, .bool top, .nilFunc] h R := by kernel_rfl
 exact calls_of_FXp (envP_ok _ _ _) Tryz.func110 (by kernel_rfl) (by kernel_rfl) (by kernel_rfl) rfl (e ▸ H)
def S150 (rP : Option Addr) (xP : Option Addr) (h : Heap) (R Rp : Value -> Heap -> Prop) : Prop :=
 ∃ b o, rP = some ⟨b, o, none⟩ /\ callP Tryz.prog 149 #[.pointer (some (⟨b, o, none⟩ : Addr))] h [] (fun a9 d1 =>
 ∃ v : Int, ∃ X : Int, ∃ U : ByteArray, ∃ F : Nat, a9 = .agg #[.int .i64 v, .int .i64 X, .string U, .float .f64 F] /\
 callP Tryz.prog 208 #[.agg #[.int .i64 v, .int .i64 X, .string U, .float .f64 F]] d1 [] (fun d0 a =>
 ∃ d : Int, ∃ e : Int, ∃ j : ByteArray, ∃ k : Nat, d0 = .agg #[.int .i64 d, .int .i64 e, .string j, .float .f64 k] /\
 let c2 : Heap := a.push (.cells #[.int .i64 0, .int .i64 0, .string ByteArray.empty, .float .f64 0] 156)
 let i : Heap := hset (hset (hset (hset c2 a.size 0 (.int .i64 d)) a.size (0 + 1) (.int .i64 e)) a.size ((0 + 1) + 1) (.string j)) a.size (((0 + 1) + 1) + 1) (.float .f64 k)
 ∃ n : List Value -> Heap -> Prop,
 ( cnd (d == (1 : Int))
   (∃ b2 o2, rP = some ⟨b2, o2, none⟩ /\ ∃ G : Int, hcell i b2 (o2 + 2) = some (.int .i64 G) /\ ∃ b3 o3, rP = some ⟨b3, o3, none⟩ /\ b3 ≠ a.size /\ (∃ m, hcell i b3 (o3 + 2) = some m) /\ hfree i b3 (o3 + 2) = true /\ let s : Heap := hset i b3 (o3 + 2) (.int .i64 (IntKind.i64.wrap (G + (1 : Int))))
   ∃ b4 o4, rP = some ⟨b4, o4, none⟩ /\ ∃ z : Int, hcell s b4 (o4 + 2) = some (.int .i64 z) /\ callP Tryz.prog 58 #[.bool (decide (z <= (16 : Int))), .int .i64 e, .int .i64 3] s [a.size] (fun a7 a0 =>
   a7 = .tuple #[] /\
   Fr [] s a0 /\
   n [] a0) Rp)
   (n [] i)) /\
 ∀ f, n [] f ->
 let C := fun (c : Heap) =>
  (let P := fun (g : Heap) =>
   (∃ p : List Value -> Heap -> Prop,
   ( cnd (d == (1 : Int))
     (∃ b10 o10, rP = some ⟨b10, o10, none⟩ /\ ∃ B : Int, hcell g b10 (o10 + 2) = some (.int .i64 B) /\ ∃ b11 o11, rP = some ⟨b11, o11, none⟩ /\ b11 ≠ a.size /\ (∃ m, hcell g b11 (o11 + 2) = some m) /\ hfree g b11 (o11 + 2) = true /\ let c9 : Heap := hset g b11 (o11 + 2) (.int .i64 (IntKind.i64.wrap (B - (1 : Int))))
     p [] c9)
     (p [] g)) /\
   ∀ w, p [] w ->
   R (.tuple #[]) w)
  cnd (d == (1 : Int))
   (∃ u : List Value -> Heap -> Prop,
   ( cnd (!(Option.isNone xP))
     (∃ b6 o6, xP = some ⟨b6, o6, none⟩ /\ ∃ (Y : Fn) (M H : Array Value), hcell c b6 (o6 + 2) = some (.func Y M H) /\ callP Tryz.prog 110 #[.pointer rP, .bool false, .func Y M H] c [a.size] (fun a4 A =>
     ∃ K : Int, a4 = .int .i64 K /\
     ∃ b7 o7, xP = some ⟨b7, o7, none⟩ /\ ∃ (E : Fn) (D Z : Array Value), hcell A b7 (o7 + 3) = some (.func E D Z) /\ callV Tryz.prog fnsX fnsP (some Rp) E D Z [.int .i64 K] A [a.size] fun c4 c1 =>
     c4 = .tuple #[] /\
     u [] c1) Rp)
     (∃ r : List Value -> Heap -> Prop,
     ( cnd (d == (1 : Int))
      (callP Tryz.prog 110 #[.pointer rP, .bool false, .nilFunc] c [a.size] (fun c8 b1 =>
      ∃ a6 : Int, c8 = .int .i64 a6 /\
      r [] b1) Rp)
      (∃ l : List Value -> Heap -> Prop,
      ( cnd (!(Option.isNone xP))
        (∃ b8 o8, xP = some ⟨b8, o8, none⟩ /\ ∃ (I : Fn) (a1 V : Array Value), hcell c b8 (o8 + 1) = some (.func I a1 V) /\ callV Tryz.prog fnsX fnsP (some Rp) I a1 V [.agg #[.int .i64 d, .int .i64 e, .string j, .float .f64 k]] c [a.size] fun c6 c0 =>
        c6 = .tuple #[] /\
        l [] c0)
        (l [] c)) /\
      ∀ N, l [] N ->
      r [] N)) /\
     ∀ x, r [] x ->
     u [] x)) /\
   ∀ L, u [] L ->
   P L)
   (∃ t : List Value -> Heap -> Prop,
   ( cnd (d == (1 : Int))
     (callP Tryz.prog 110 #[.pointer rP, .bool false, .nilFunc] c [a.size] (fun c5 a5 =>
     ∃ c7 : Int, c5 = .int .i64 c7 /\
     t [] a5) Rp)
     (∃ q : List Value -> Heap -> Prop,
     ( cnd (!(Option.isNone xP))
      (∃ b9 o9, xP = some ⟨b9, o9, none⟩ /\ ∃ (W : Fn) (a2 S : Array Value), hcell c b9 (o9 + 1) = some (.func W a2 S) /\ callV Tryz.prog fnsX fnsP (some Rp) W a2 S [.agg #[.int .i64 d, .int .i64 e, .string j, .float .f64 k]] c [a.size] fun c3 b0 =>
      c3 = .tuple #[] /\
      q [] b0)
      (q [] c)) /\
     ∀ O, q [] O ->
     t [] O)) /\
   ∀ Q, t [] Q ->
   P Q))
 cnd (Option.isNone xP)
  (callP Tryz.prog 58 #[.bool true, .int .i64 e, .int .i64 22] f [a.size] (fun a8 y =>
  a8 = .tuple #[] /\
  Fr [] f y /\
  C y) Rp)
  (∃ b5 o5, xP = some ⟨b5, o5, none⟩ /\ ∃ J : Int, hcell f b5 o5 = some (.int .i64 J) /\ callP Tryz.prog 58 #[.bool (J == d), .int .i64 e, .int .i64 22] f [a.size] (fun a3 T =>
  a3 = .tuple #[] /\
  Fr [] f T /\
  C T) Rp)) Rp) Rp
theorem calls150 {h : Heap} {R Rp : Value -> Heap -> Prop} (rP : Option Addr) (xP : Option Addr) (H : S150 rP xP h R Rp) : CallsP Tryz.prog 150 #[.pointer rP, .pointer xP] h R Rp := by
 have e : S150 rP xP h R Rp = FX (envP [4] 88 Rp) { loops := [], joins := [(13, ⟨[0, 1, 4], [], [4], []⟩), (43, ⟨[0, 4], [], [4], []⟩), (63, ⟨[0, 4], [], [4], []⟩), (69, ⟨[0, 4], [], [4], []⟩), (80, ⟨[], [], [], []⟩)], blocks := [], draws := [(3, ⟨8, false⟩), (4, ⟨14, false⟩), (11, ⟨5, false⟩)] } Tryz.f150 (Tryz.f150.body.getD .skip) [.pointer rP, .pointer xP] h R := by kernel_rfl
 exact calls_of_FXp (envP_ok _ _ _) Tryz.func150 (by kernel_rfl) (by kernel_rfl) (by kernel_rfl) rfl (e ▸ H)
def S59 (rP : Option Addr) (h : Heap) (R Rp : Value -> Heap -> Prop) : Prop :=
 let e0 : Heap := h.push (.cells #[.int .i64 0, .slice none 0 0, .bool false, .slice none 0 0, .slice none 0 0, .slice none 0 0] 29)
 callP Tryz.prog 110 #[.pointer rP, .bool true, .func (.func 111) #[.pointer rP] #[]] e0 [h.size] (fun e5 c4 =>
 ∃ Y : Int, e5 = .int .i64 Y /\
 ∃ b o, rP = some ⟨b, o, none⟩ /\ ∃ a4 : Bool, hcell c4 b (o + 9) = some (.bool a4) /\ callP Tryz.prog 58 #[.bool a4, .int .i64 Y, .int .i64 14] c4 [h.size] (fun f0 d7 =>
 f0 = .tuple #[] /\
 ∃ (x : List Value -> Heap -> Prop) (a8 : List Value -> Heap -> Nat), x [.int .i64 0] d7 /\
 ∀ f : Int, ∀ d, x [.int .i64 f] d ->
 ∃ b2 o2, rP = some ⟨b2, o2, none⟩ /\ ∃ (e9 : Option Addr) (d1 d6 : Nat), hcell d b2 (o2 + 17) = some (.slice e9 d1 d6) /\ cnd (decide (f < ((d1 : Nat) : Int)))
  (let c9 : Heap := d.push (.cells #[.int .i64 0, .int .i64 0] 48)
  ∃ b3 o3, rP = some ⟨b3, o3, none⟩ /\ ∃ (G : Option Addr) (e7 F : Nat), hcell c9 b3 (o3 + 17) = some (.slice G e7 F) /\ 0 <= (IntKind.i64.wrap (f + (2 : Int))) /\ (IntKind.i64.wrap (f + (2 : Int))) <= (F : Nat) /\ 0 <= f /\ f <= ((Int.toNat (IntKind.i64.wrap (f + (2 : Int)))) : Nat) /\ ∃ (C : List Value -> Heap -> Prop) (a1 : List Value -> Heap -> Nat), C [.int .i64 0] c9 /\
  ∀ g : Int, ∀ a, C [.int .i64 g] a ->
  cnd (decide (g < ((((Int.toNat (IntKind.i64.wrap (f + (2 : Int)))) - (Int.toNat f)) : Nat) : Int)))
   (∃ b4 o4, (if F = (Int.toNat f) then G else Option.map (fun e8 => Addr.add e8 ((Int.toNat f) * 4)) G) = some ⟨b4, o4, none⟩ /\ 0 <= g /\ g < (((Int.toNat (IntKind.i64.wrap (f + (2 : Int)))) - (Int.toNat f)) : Nat) /\ ∃ N : Int, hcell a b4 (o4 + (Int.toNat g) * 4) = some (.int .i64 N) /\ ∃ t : Int, hcell a b4 ((o4 + (Int.toNat g) * 4) + 1) = some (.int .i64 t) /\ ∃ B : ByteArray, hcell a b4 (((o4 + (Int.toNat g) * 4) + 1) + 1) = some (.string B) /\ ∃ I : Nat, hcell a b4 ((((o4 + (Int.toNat g) * 4) + 1) + 1) + 1) = some (.float .f64 I) /\ let d9 : Heap := a.push (.cells #[.int .i64 0, .int .i64 0, .string ByteArray.empty, .float .f64 0] 156)
   let p : Heap := hset (hset (hset (hset d9 a.size 0 (.int .i64 N)) a.size (0 + 1) (.int .i64 t)) a.size ((0 + 1) + 1) (.string B)) a.size (((0 + 1) + 1) + 1) (.float .f64 I)
   let c1 := fun (e3 : Int) (d8 : Bool) (d5 : Heap) =>
    (callP Tryz.prog 58 #[.bool d8, .int .i64 t, .int .i64 14] d5 [a.size, h.size] (fun d3 w =>
    d3 = .tuple #[] /\
    0 <= g /\ g < ((2 : Nat) : Int) /\ d.size ≠ a.size /\ d.size ≠ h.size /\ (∃ i, hcell w d.size (0 + (Int.toNat g) * 1) = some i) /\ hfree w d.size (0 + (Int.toNat g) * 1) = true /\ let c5 : Heap := hset w d.size (0 + (Int.toNat g) * 1) (.int .i64 e3)
    C [.int .i64 (IntKind.i64.wrap (g + (1 : Int)))] c5 /\ a1 [.int .i64 (IntKind.i64.wrap (g + (1 : Int)))] c5 < a1 [.int .i64 g] a) Rp)
   ∃ b5 o5, rP = some ⟨b5, o5, none⟩ /\ ∃ a2 : Option Nat, hcell p b5 (o5 + 10) = some (.map a2) /\ callP Tryz.prog 112 #[.agg #[.int .i64 N, .int .i64 t, .string B, .float .f64 I]] p [a.size, h.size] (fun e4 n =>
   ∃ V : Int, e4 = .int .i64 V /\
   Fr [] p n /\
   ∃ c0, a2 = some c0 /\ ∃ es c, hmap n c0 = some (es, c) /\ keysB tiInt es /\
   (∀ ev ∈ es.toList, ev.key = .int .i64 V ->
    ∃ b1 : Int, ev.val = .int .i64 b1 /\ Fr [] p n /\
    c1 b1 true n) /\
   ((∀ e ∈ es.toList, e.key ≠ .int .i64 V) ->
    Fr [] p n /\
    c1 0 false n)) Rp)
   (∃ q : List Nat, (∀ b ∈ ([h.size] : List Nat), b ∉ q) /\
   ∃ b6 o6, rP = some ⟨b6, o6, none⟩ /\ b6 ∉ q /\ ∃ (r : Option Addr) (m u : Nat), hcell a b6 ((o6 + 3) + 1) = some (.slice r m u) /\ d.size ∉ q /\ ∃ L : Int, hcell a d.size 0 = some (.int .i64 L) /\ ∃ O : Int, hcell a d.size (0 + 1) = some (.int .i64 O) /\ let s : Heap := a.push (.cells #[.int .i64 L, .int .i64 O] 48)
   Fr q a s /\
   ∃ a5, Ownd s 48 2 r m u a5 /\ (∀ b ∈ ([a.size, h.size] : List Nat), b ∉ blkOf r) /\ (m + 1) * 16 <= 140737488355328 /\ (m + 1) <= maxLen /\
   ∀ sA sC hv14, Ownd hv14 48 2 sA (m + 1) sC (a5 ++ [.int .i64 L, .int .i64 O]) -> Fr (blkOf r) s hv14 -> ((sA = r /\ sC = u) \/ ∃ c8, sA = some ⟨c8, 0, none⟩ /\ s.size <= c8) -> (u < (m + 1) -> Fr [] s hv14) ->
   Fr q a hv14 /\
   ∃ b7 o7, rP = some ⟨b7, o7, none⟩ /\ b7 ≠ a.size /\ b7 ≠ h.size /\ (∃ i, hcell hv14 b7 ((o7 + 3) + 1) = some i) /\ hfree hv14 b7 ((o7 + 3) + 1) = true /\ let a9 : Heap := hset hv14 b7 ((o7 + 3) + 1) (.slice sA (m + 1) sC)
   x [.int .i64 (IntKind.i64.wrap (f + (2 : Int)))] a9 /\ a8 [.int .i64 (IntKind.i64.wrap (f + (2 : Int)))] a9 < a8 [.int .i64 f] d))
  (∃ b8 o8, rP = some ⟨b8, o8, none⟩ /\ ∃ c2 : Bool, hcell d b8 ((o8 + 14) + 0) = some (.bool c2) /\ ∃ M : List Value -> Heap -> Prop,
  ( cnd c2
    (∃ b9 o9, rP = some ⟨b9, o9, none⟩ /\ ∃ (c7 : Option Addr) (a7 b0 : Nat), hcell d b9 (o9 + 11) = some (.slice c7 a7 b0) /\ ∃ b10 o10, rP = some ⟨b10, o10, none⟩ /\ b10 ≠ h.size /\ (∃ i, hcell d b10 ((o10 + 3) + 3) = some i) /\ hfree d b10 ((o10 + 3) + 3) = true /\ let e1 : Heap := hset d b10 ((o10 + 3) + 3) (.slice c7 a7 b0)
    M [] e1)
    (M [] d)) /\
  ∀ l, M [] l ->
  ∃ b11 o11, rP = some ⟨b11, o11, none⟩ /\ ∃ a6 : Bool, hcell l b11 ((o11 + 14) + 1) = some (.bool a6) /\ ∃ E : List Value -> Heap -> Prop,
  ( cnd a6
    (∃ b12 o12, rP = some ⟨b12, o12, none⟩ /\ ∃ (a0 : Option Addr) (Z d2 : Nat), hcell l b12 (o12 + 12) = some (.slice a0 Z d2) /\ ∃ b13 o13, rP = some ⟨b13, o13, none⟩ /\ b13 ≠ h.size /\ (∃ i, hcell l b13 ((o13 + 3) + 4) = some i) /\ hfree l b13 ((o13 + 3) + 4) = true /\ let e2 : Heap := hset l b13 ((o13 + 3) + 4) (.slice a0 Z d2)
    E [] e2)
    (E [] l)) /\
  ∀ k, E [] k ->
  ∃ b14 o14, rP = some ⟨b14, o14, none⟩ /\ ∃ c6 : Bool, hcell k b14 ((o14 + 14) + 2) = some (.bool c6) /\ ∃ S : List Value -> Heap -> Prop,
  ( cnd c6
    (∃ b15 o15, rP = some ⟨b15, o15, none⟩ /\ ∃ (a3 : Option Addr) (c3 d0 : Nat), hcell k b15 (o15 + 13) = some (.slice a3 c3 d0) /\ ∃ b16 o16, rP = some ⟨b16, o16, none⟩ /\ b16 ≠ h.size /\ (∃ i, hcell k b16 ((o16 + 3) + 5) = some i) /\ hfree k b16 ((o16 + 3) + 5) = true /\ let e6 : Heap := hset k b16 ((o16 + 3) + 5) (.slice a3 c3 d0)
    S [] e6)
    (S [] k)) /\
  ∀ j, S [] j ->
  ∃ b17 o17, rP = some ⟨b17, o17, none⟩ /\ ∃ H : Int, hcell j b17 (o17 + 3) = some (.int .i64 H) /\ ∃ (z : Option Addr) (y A : Nat), hcell j b17 ((o17 + 3) + 1) = some (.slice z y A) /\ ∃ K : Bool, hcell j b17 (((o17 + 3) + 1) + 1) = some (.bool K) /\ ∃ (P : Option Addr) (T Q : Nat), hcell j b17 ((((o17 + 3) + 1) + 1) + 1) = some (.slice P T Q) /\ ∃ (D : Option Addr) (U W : Nat), hcell j b17 (((((o17 + 3) + 1) + 1) + 1) + 1) = some (.slice D U W) /\ ∃ (X : Option Addr) (J v : Nat), hcell j b17 ((((((o17 + 3) + 1) + 1) + 1) + 1) + 1) = some (.slice X J v) /\ let d4 : Heap := hset (hset (hset (hset (hset (hset j h.size 0 (.int .i64 H)) h.size (0 + 1) (.slice z y A)) h.size ((0 + 1) + 1) (.bool K)) h.size (((0 + 1) + 1) + 1) (.slice P T Q)) h.size ((((0 + 1) + 1) + 1) + 1) (.slice D U W)) h.size (((((0 + 1) + 1) + 1) + 1) + 1) (.slice X J v)
  R (.agg #[.int .i64 H, .slice z y A, .bool K, .slice P T Q, .slice D U W, .slice X J v]) d4)) Rp) Rp
theorem calls59 {h : Heap} {R Rp : Value -> Heap -> Prop} (rP : Option Addr) (H : S59 rP h R Rp) : CallsP Tryz.prog 59 #[.pointer rP] h R Rp := by
 have e : S59 rP h R Rp = FX (envP [2, 7, 69] 118 Rp) { loops := [(0, ⟨[0, 2], [4], [2], []⟩), (2, ⟨[0, 2, 4, 5, 36, 37], [38], [2], []⟩)], joins := [(79, ⟨[0, 2], [], [2], []⟩), (92, ⟨[0, 2], [], [2], []⟩), (105, ⟨[0, 2], [], [2], []⟩)], blocks := [], draws := [(10, ⟨12, false⟩), (14, ⟨10, true⟩)] } Tryz.f59 (Tryz.f59.body.getD .skip) [.pointer rP] h R := by kernel_rfl
 exact calls_of_FXp (envP_ok _ _ _) Tryz.func59 (by kernel_rfl) (by kernel_rfl) (by kernel_rfl) rfl (e ▸ H)
def S68 (s : ByteArray) (h : Heap) (R : Value -> Heap -> Prop) : Prop :=
 ∃ (d : List Value -> Heap -> Prop) (g : List Value -> Heap -> Nat), d [.int .i64 0] h /\
 ∀ a : Int, ∀ b, d [.int .i64 a] b ->
 cnd (decide (a < ((s.size : Nat) : Int)))
  (0 <= a /\ a < ((s.size : Nat) : Int) /\ ∃ f : UInt8, s[Int.toNat a]? = some f /\ callX Tryz.prog 114 #[.int .u8 ((UInt8.toNat f : Nat) : Int)] b [] fun i c =>
  ∃ e : Bool, i = .bool e /\
  cnd (!e)
   (R (.bool false) c)
   (d [.int .i64 (IntKind.i64.wrap (a + (1 : Int)))] c /\ g [.int .i64 (IntKind.i64.wrap (a + (1 : Int)))] c < g [.int .i64 a] b))
  (R (.bool (decide (((s.size : Nat) : Int) <= (256 : Int)))) b)
theorem calls68 {h : Heap} {R : Value -> Heap -> Prop} (s : ByteArray) (H : S68 s h R) : CallsH Tryz.prog 68 #[.string s] h R := by
 have e : S68 s h R = FX (envX [] 18) { loops := [(0, ⟨[0, 5], [6], [], []⟩)], joins := [], blocks := [], draws := [] } Tryz.f68 (Tryz.f68.body.getD .skip) [.string s] h R := by kernel_rfl
 exact calls_of_FX (envX_ok _ _) Tryz.func68 (by kernel_rfl) (by kernel_rfl) (by kernel_rfl) (e ▸ H)
end Go.Proofs.YtlflalecmhgmjaaGreatDoor.N
