/- Functions: what is left to be shown of each, over memory and without: printed by program, tied to the loaded functions by the kernel. Conditions: none. -/
import Derived.Test.YtlflalecmhgmjaaGreatDoorWEnv
import Derived.Test.YtlflalecmhgmjaaGreatDoorYGl
namespace Go.Proofs.YtlflalecmhgmjaaGreatDoor.N
open Go.Proofs.YtlflalecmhgmjaaGreatDoor
open Go.X
set_option maxRecDepth 100000
set_option linter.unusedVariables false
set_option linter.unusedSimpArgs false
set_option maxHeartbeats 2000000
def S203 (c : Int) (h : Heap) (R : Value -> Heap -> Prop) : Prop :=
 cnd (decide (c >= (97 : Int)))
  (cnd (decide (c <= (122 : Int)))
   (R (.bool true) h)
   (cnd (decide (c >= (65 : Int)))
    (R (.bool (decide (c <= (90 : Int)))) h)
    (R (.bool false) h)))
  (cnd (decide (c >= (65 : Int)))
   (R (.bool (decide (c <= (90 : Int)))) h)
   (R (.bool false) h))
theorem calls203 {h : Heap} {R : Value -> Heap -> Prop} (c : Int) (H : S203 c h R) : CallsH Tryz.prog 203 #[.int .u8 c] h R := by
 have e : S203 c h R = FX (envX [] 17) { loops := [], joins := [], blocks := [], draws := [] } Tryz.f203 (Tryz.f203.body.getD .skip) [.int .u8 c] h R := by kernel_rfl
 exact calls_of_FX (envX_ok _ _) Tryz.func203 (by kernel_rfl) (by kernel_rfl) (by kernel_rfl) (e ▸ H)
def S206 (c : Int) (h : Heap) (R : Value -> Heap -> Prop) : Prop :=
 cnd (decide (c >= (48 : Int)))
  (R (.bool (decide (c <= (57 : Int)))) h)
  (R (.bool false) h)
theorem calls206 {h : Heap} {R : Value -> Heap -> Prop} (c : Int) (H : S206 c h R) : CallsH Tryz.prog 206 #[.int .u8 c] h R := by
 have e : S206 c h R = FX (envX [] 9) { loops := [], joins := [], blocks := [], draws := [] } Tryz.f206 (Tryz.f206.body.getD .skip) [.int .u8 c] h R := by kernel_rfl
 exact calls_of_FX (envX_ok _ _) Tryz.func206 (by kernel_rfl) (by kernel_rfl) (by kernel_rfl) (e ▸ H)
def S258 (c : Int) (h : Heap) (R : Value -> Heap -> Prop) : Prop :=
 cnd (c == (32 : Int))
  (R (.bool true) h)
  (cnd (c == (9 : Int))
   (R (.bool true) h)
   (cnd (c == (10 : Int))
    (R (.bool true) h)
    (R (.bool (c == (13 : Int))) h)))
theorem calls258 {h : Heap} {R : Value -> Heap -> Prop} (c : Int) (H : S258 c h R) : CallsH Tryz.prog 258 #[.int .u8 c] h R := by
 have e : S258 c h R = FX (envX [] 17) { loops := [], joins := [], blocks := [], draws := [] } Tryz.f258 (Tryz.f258.body.getD .skip) [.int .u8 c] h R := by kernel_rfl
 exact calls_of_FX (envX_ok _ _) Tryz.func258 (by kernel_rfl) (by kernel_rfl) (by kernel_rfl) (e ▸ H)
def S114 (c : Int) (h : Heap) (R : Value -> Heap -> Prop) : Prop :=
 cnd (decide (c >= (32 : Int)))
  (R (.bool (decide (c <= (126 : Int)))) h)
  (R (.bool false) h)
theorem calls114 {h : Heap} {R : Value -> Heap -> Prop} (c : Int) (H : S114 c h R) : CallsH Tryz.prog 114 #[.int .u8 c] h R := by
 have e : S114 c h R = FX (envX [] 9) { loops := [], joins := [], blocks := [], draws := [] } Tryz.f114 (Tryz.f114.body.getD .skip) [.int .u8 c] h R := by kernel_rfl
 exact calls_of_FX (envX_ok _ _) Tryz.func114 (by kernel_rfl) (by kernel_rfl) (by kernel_rfl) (e ▸ H)
def S205 (c : Int) (h : Heap) (R : Value -> Heap -> Prop) : Prop :=
 let b := fun (j : Heap) =>
  (R (.bool true) j)
 callX Tryz.prog 203 #[.int .u8 c] h [] fun g f =>
 ∃ a : Bool, g = .bool a /\
 cnd a
  (b f)
  (callX Tryz.prog 206 #[.int .u8 c] f [] fun i d =>
  ∃ e : Bool, i = .bool e /\
  cnd e
   (b d)
   (R (.bool (c == (95 : Int))) d))
theorem calls205 {h : Heap} {R : Value -> Heap -> Prop} (c : Int) (H : S205 c h R) : CallsH Tryz.prog 205 #[.int .u8 c] h R := by
 have e : S205 c h R = FX (envX [] 13) { loops := [], joins := [], blocks := [], draws := [] } Tryz.f205 (Tryz.f205.body.getD .skip) [.int .u8 c] h R := by kernel_rfl
 exact calls_of_FX (envX_ok _ _) Tryz.func205 (by kernel_rfl) (by kernel_rfl) (by kernel_rfl) (e ▸ H)
def S207 (c : Int) (h : Heap) (R : Value -> Heap -> Prop) : Prop :=
 let a := fun (j : Heap) =>
  (R (.bool true) j)
 callX Tryz.prog 203 #[.int .u8 c] h [] fun g f =>
 ∃ d : Bool, g = .bool d /\
 cnd d
  (a f)
  (callX Tryz.prog 206 #[.int .u8 c] f [] fun i b =>
  ∃ e : Bool, i = .bool e /\
  cnd e
   (a b)
   (cnd (c == (43 : Int))
    (a b)
    (cnd (c == (45 : Int))
     (a b)
     (R (.bool (c == (46 : Int))) b))))
theorem calls207 {h : Heap} {R : Value -> Heap -> Prop} (c : Int) (H : S207 c h R) : CallsH Tryz.prog 207 #[.int .u8 c] h R := by
 have e : S207 c h R = FX (envX [] 21) { loops := [], joins := [], blocks := [], draws := [] } Tryz.f207 (Tryz.f207.body.getD .skip) [.int .u8 c] h R := by kernel_rfl
 exact calls_of_FX (envX_ok _ _) Tryz.func207 (by kernel_rfl) (by kernel_rfl) (by kernel_rfl) (e ▸ H)
def S109 (atv : Int) (ev : Int) (h : Heap) (R Rp : Value -> Heap -> Prop) : Prop :=
 Rp (.iface 88 (.agg #[.int .i64 atv, .int .i64 ev])) h
theorem calls109 {h : Heap} {R Rp : Value -> Heap -> Prop} (atv : Int) (ev : Int) (H : S109 atv ev h R Rp) : CallsP Tryz.prog 109 #[.int .i64 atv, .int .i64 ev] h R Rp := by
 have e : S109 atv ev h R Rp = FX (envP [] 8 Rp) { loops := [], joins := [], blocks := [], draws := [] } Tryz.f109 (Tryz.f109.body.getD .skip) [.int .i64 atv, .int .i64 ev] h R := by kernel_rfl
 exact calls_of_FXp (envP_ok _ _ _) Tryz.func109 (by kernel_rfl) (by kernel_rfl) (by kernel_rfl) rfl (e ▸ H)
def S58 (ok : Bool) (atv : Int) (ev : Int) (h : Heap) (R Rp : Value -> Heap -> Prop) : Prop :=
 ∃ a : List Value -> Heap -> Prop,
 ( cnd (!ok)
   (callP Tryz.prog 109 #[.int .i64 atv, .int .i64 ev] h [] (fun c d =>
   c = .tuple #[] /\
   a [] d) Rp)
   (a [] h)) /\
 ∀ b, a [] b ->
 R (.tuple #[]) b
theorem calls58 {h : Heap} {R Rp : Value -> Heap -> Prop} (ok : Bool) (atv : Int) (ev : Int) (H : S58 ok atv ev h R Rp) : CallsP Tryz.prog 58 #[.bool ok, .int .i64 atv, .int .i64 ev] h R Rp := by
 have e : S58 ok atv ev h R Rp = FX (envP [] 11 Rp) { loops := [], joins := [(7, ⟨[], [], [], []⟩)], blocks := [], draws := [] } Tryz.f58 (Tryz.f58.body.getD .skip) [.bool ok, .int .i64 atv, .int .i64 ev] h R := by kernel_rfl
 exact calls_of_FXp (envP_ok _ _ _) Tryz.func58 (by kernel_rfl) (by kernel_rfl) (by kernel_rfl) rfl (e ▸ H)
def S201 (lP : Option Addr) (h : Heap) (R : Value -> Heap -> Prop) : Prop :=
 ∃ (j : List Value -> Heap -> Prop) (y : List Value -> Heap -> Nat), j [] h /\
 ∀ c, j [] c ->
 ∃ b o, lP = some ⟨b, o, none⟩ /\ ∃ u : Int, hcell c b (o + 1) = some (.int .i64 u) /\ ∃ b2 o2, lP = some ⟨b2, o2, none⟩ /\ ∃ t : ByteArray, hcell c b2 o2 = some (.string t) /\ cnd (decide (u < ((t.size : Nat) : Int)))
  (∃ b3 o3, lP = some ⟨b3, o3, none⟩ /\ ∃ m : ByteArray, hcell c b3 o3 = some (.string m) /\ ∃ b4 o4, lP = some ⟨b4, o4, none⟩ /\ ∃ f : Int, hcell c b4 (o4 + 1) = some (.int .i64 f) /\ 0 <= f /\ f < ((m.size : Nat) : Int) /\ ∃ p : UInt8, m[Int.toNat f]? = some p /\ callX Tryz.prog 258 #[.int .u8 ((UInt8.toNat p : Nat) : Int)] c [] fun B a =>
  ∃ s : Bool, B = .bool s /\
  ∃ l : List Value -> Heap -> Prop,
  ( cnd s
    (∃ b5 o5, lP = some ⟨b5, o5, none⟩ /\ ∃ z : Int, hcell a b5 (o5 + 1) = some (.int .i64 z) /\ ∃ b6 o6, lP = some ⟨b6, o6, none⟩ /\ (∃ k, hcell a b6 (o6 + 1) = some k) /\ hfree a b6 (o6 + 1) = true /\ let C : Heap := hset a b6 (o6 + 1) (.int .i64 (IntKind.i64.wrap (z + (1 : Int))))
    l [] C)
    (cnd (((UInt8.toNat p : Nat) : Int) == (35 : Int))
     (∃ b7 o7, lP = some ⟨b7, o7, none⟩ /\ ∃ i : ByteArray, hcell a b7 o7 = some (.string i) /\ ∃ b8 o8, lP = some ⟨b8, o8, none⟩ /\ ∃ g : Int, hcell a b8 (o8 + 1) = some (.int .i64 g) /\ 0 <= g /\ g <= ((i.size : Nat) : Int) /\ callX Tryz.prog 256 #[.string (i.extract (Int.toNat g) i.size), .int .u8 10] a [] fun E e =>
     ∃ r : Int, E = .int .i64 r /\
     Fr [] a e /\
     ∃ n : List Value -> Heap -> Prop,
     ( cnd (decide (r < (0 : Int)))
      (∃ b9 o9, lP = some ⟨b9, o9, none⟩ /\ ∃ w : ByteArray, hcell e b9 o9 = some (.string w) /\ ∃ b10 o10, lP = some ⟨b10, o10, none⟩ /\ ∃ v : Int, hcell e b10 (o10 + 1) = some (.int .i64 v) /\ n [.int .i64 (IntKind.i64.wrap (((w.size : Nat) : Int) - v))] e)
      (n [.int .i64 r] e)) /\
     ∀ A : Int, ∀ d, n [.int .i64 A] d ->
     ∃ b11 o11, lP = some ⟨b11, o11, none⟩ /\ ∃ x : Int, hcell d b11 (o11 + 1) = some (.int .i64 x) /\ ∃ b12 o12, lP = some ⟨b12, o12, none⟩ /\ (∃ k, hcell d b12 (o12 + 1) = some k) /\ hfree d b12 (o12 + 1) = true /\ let D : Heap := hset d b12 (o12 + 1) (.int .i64 (IntKind.i64.wrap (x + A)))
     l [] D)
     (R (.tuple #[]) a))) /\
  ∀ q, l [] q ->
  j [] q /\ y [] q < y [] c)
  (R (.tuple #[]) c)
theorem calls201 {h : Heap} {R : Value -> Heap -> Prop} (lP : Option Addr) (H : S201 lP h R) : CallsH Tryz.prog 201 #[.pointer lP] h R := by
 have e : S201 lP h R = FX (envX [] 66) { loops := [(0, ⟨[0], [], [], []⟩)], joins := [(23, ⟨[0], [], [], []⟩), (47, ⟨[0], [3], [], []⟩)], blocks := [], draws := [(0, ⟨10, false⟩), (1, ⟨10, false⟩), (5, ⟨11, false⟩), (7, ⟨11, false⟩)] } Tryz.f201 (Tryz.f201.body.getD .skip) [.pointer lP] h R := by kernel_rfl
 exact calls_of_FX (envX_ok _ _) Tryz.func201 (by kernel_rfl) (by kernel_rfl) (by kernel_rfl) (e ▸ H)
def S204 (lP : Option Addr) (suchF : Fn) (suchX suchY : Array Value) (h : Heap) (R : Value -> Heap -> Prop) : Prop :=
 ∃ b o, lP = some ⟨b, o, none⟩ /\ ∃ f : Int, hcell h b (o + 1) = some (.int .i64 f) /\ let p := fun (k : Heap) =>
  (∃ b8 o8, lP = some ⟨b8, o8, none⟩ /\ ∃ j : ByteArray, hcell k b8 o8 = some (.string j) /\ ∃ b9 o9, lP = some ⟨b9, o9, none⟩ /\ ∃ d : Int, hcell k b9 (o9 + 1) = some (.int .i64 d) /\ 0 <= d /\ d <= ((j.size : Nat) : Int) /\ 0 <= f /\ f <= (((Int.toNat d) : Nat) : Int) /\ R (.string (j.extract (Int.toNat f) (Int.toNat d))) k)
 ∃ (i : List Value -> Heap -> Prop) (t : List Value -> Heap -> Nat), i [] h /\
 ∀ a, i [] a ->
 ∃ b2 o2, lP = some ⟨b2, o2, none⟩ /\ ∃ n : Int, hcell a b2 (o2 + 1) = some (.int .i64 n) /\ ∃ b3 o3, lP = some ⟨b3, o3, none⟩ /\ ∃ r : ByteArray, hcell a b3 o3 = some (.string r) /\ cnd (decide (n < ((r.size : Nat) : Int)))
  (∃ b4 o4, lP = some ⟨b4, o4, none⟩ /\ ∃ g : ByteArray, hcell a b4 o4 = some (.string g) /\ ∃ b5 o5, lP = some ⟨b5, o5, none⟩ /\ ∃ e : Int, hcell a b5 (o5 + 1) = some (.int .i64 e) /\ 0 <= e /\ e < ((g.size : Nat) : Int) /\ ∃ q : UInt8, g[Int.toNat e]? = some q /\ callV Tryz.prog fnsX [] none suchF suchX suchY [.int .u8 ((UInt8.toNat q : Nat) : Int)] a [] fun v c =>
  ∃ l : Bool, v = .bool l /\
  Fr [] a c /\
  cnd l
   (∃ b6 o6, lP = some ⟨b6, o6, none⟩ /\ ∃ s : Int, hcell c b6 (o6 + 1) = some (.int .i64 s) /\ ∃ b7 o7, lP = some ⟨b7, o7, none⟩ /\ (∃ u, hcell c b7 (o7 + 1) = some u) /\ hfree c b7 (o7 + 1) = true /\ let m : Heap := hset c b7 (o7 + 1) (.int .i64 (IntKind.i64.wrap (s + (1 : Int))))
   i [] m /\ t [] m < t [] a)
   (p c))
  (Fr [] a a /\
  p a)
theorem calls204 {h : Heap} {R : Value -> Heap -> Prop} (lP : Option Addr) (suchF : Fn) (suchX suchY : Array Value) (H : S204 lP suchF suchX suchY h R) : CallsH Tryz.prog 204 #[.pointer lP, .func suchF suchX suchY] h R := by
 have e : S204 lP suchF suchX suchY h R = FX (envX [] 50) { loops := [(0, ⟨[0, 1, 5], [], [], []⟩)], joins := [], blocks := [], draws := [(2, ⟨23, false⟩), (4, ⟨11, false⟩)] } Tryz.f204 (Tryz.f204.body.getD .skip) [.pointer lP, .func suchF suchX suchY] h R := by kernel_rfl
 exact calls_of_FX (envX_ok _ _) Tryz.func204 (by kernel_rfl) (by kernel_rfl) (by kernel_rfl) (e ▸ H)
def S202 (lP : Option Addr) (h : Heap) (R Rp : Value -> Heap -> Prop) : Prop :=
 ∃ b o, lP = some ⟨b, o, none⟩ /\ ∃ L : Int, hcell h b (o + 1) = some (.int .i64 L) /\ ∃ b2 o2, lP = some ⟨b2, o2, none⟩ /\ ∃ F : Int, hcell h b2 (o2 + 1) = some (.int .i64 F) /\ ∃ b3 o3, lP = some ⟨b3, o3, none⟩ /\ (∃ f, hcell h b3 (o3 + 1) = some f) /\ hfree h b3 (o3 + 1) = true /\ let a7 : Heap := hset h b3 (o3 + 1) (.int .i64 (IntKind.i64.wrap (F + (1 : Int))))
 ∃ (q : List Value -> Heap -> Prop) (S : List Value -> Heap -> Nat), q [.slice none 0 0] a7 /\
 ∀ (d : Option Addr) (c e : Nat), ∀ a, q [.slice d c e] a ->
 ∃ b4 o4, lP = some ⟨b4, o4, none⟩ /\ ∃ N : Int, hcell a b4 (o4 + 1) = some (.int .i64 N) /\ ∃ b5 o5, lP = some ⟨b5, o5, none⟩ /\ ∃ I : ByteArray, hcell a b5 o5 = some (.string I) /\ cnd (decide (N < ((I.size : Nat) : Int)))
  (∃ b6 o6, lP = some ⟨b6, o6, none⟩ /\ ∃ y : ByteArray, hcell a b6 o6 = some (.string y) /\ ∃ b7 o7, lP = some ⟨b7, o7, none⟩ /\ ∃ p : Int, hcell a b7 (o7 + 1) = some (.int .i64 p) /\ 0 <= p /\ p < ((y.size : Nat) : Int) /\ ∃ g : UInt8, y[Int.toNat p]? = some g /\ cnd (((UInt8.toNat g : Nat) : Int) == (34 : Int))
   (∃ b8 o8, lP = some ⟨b8, o8, none⟩ /\ ∃ K : Int, hcell a b8 (o8 + 1) = some (.int .i64 K) /\ ∃ b9 o9, lP = some ⟨b9, o9, none⟩ /\ (∃ f, hcell a b9 (o9 + 1) = some f) /\ hfree a b9 (o9 + 1) = true /\ let T : Heap := hset a b9 (o9 + 1) (.int .i64 (IntKind.i64.wrap (K + (1 : Int))))
   ∃ M : List Int, Reads T 1 d c (List.map (Value.int IntKind.u8) M) /\ R (.string (strOf M)) T)
   (∃ r : List Value -> Heap -> Prop,
   ( cnd (((UInt8.toNat g : Nat) : Int) == (38 : Int))
     (∃ b10 o10, lP = some ⟨b10, o10, none⟩ /\ ∃ l : ByteArray, hcell a b10 o10 = some (.string l) /\ ∃ b11 o11, lP = some ⟨b11, o11, none⟩ /\ ∃ j : Int, hcell a b11 (o11 + 1) = some (.int .i64 j) /\ 0 <= j /\ j <= ((l.size : Nat) : Int) /\ callX Tryz.prog 259 #[.string (l.extract (Int.toNat j) l.size)] a [] fun a4 C =>
     ∃ u : Int, ∃ A : Int, a4 = .tuple #[.int .u8 u, .int .i64 A] /\
     Fr [] a C /\
     ∃ b12 o12, lP = some ⟨b12, o12, none⟩ /\ ∃ Q : Int, hcell C b12 (o12 + 1) = some (.int .i64 Q) /\ callP Tryz.prog 58 #[.bool (decide (A > (0 : Int))), .int .i64 Q, .int .i64 15] C [] (fun a6 z =>
     a6 = .tuple #[] /\
     let n : Heap := z.push (.cells #[.int .u8 u] 5)
     ∃ O, Ownd n 5 1 d c e O /\ (∀ b ∈ ([z.size] : List Nat), b ∉ blkOf d) /\ (c + 1) * 1 <= 140737488355328 /\ (c + 1) <= maxLen /\
     ∀ sA sC hv7, Ownd hv7 5 1 sA (c + 1) sC (O ++ [.int .u8 u]) -> Fr (blkOf d) n hv7 -> ((sA = d /\ sC = e) \/ ∃ i, sA = some ⟨i, 0, none⟩ /\ n.size <= i) -> (e < (c + 1) -> Fr [] n hv7) ->
     ∃ b13 o13, lP = some ⟨b13, o13, none⟩ /\ ∃ U : Int, hcell hv7 b13 (o13 + 1) = some (.int .i64 U) /\ ∃ b14 o14, lP = some ⟨b14, o14, none⟩ /\ b14 ≠ z.size /\ (∃ f, hcell hv7 b14 (o14 + 1) = some f) /\ hfree hv7 b14 (o14 + 1) = true /\ let Z : Heap := hset hv7 b14 (o14 + 1) (.int .i64 (IntKind.i64.wrap (U + A)))
     r [.slice sA (c + 1) sC] Z) Rp)
     (let J := fun (v : Heap) =>
      (let k : Heap := v.push (.cells #[.int .u8 ((UInt8.toNat g : Nat) : Int)] 5)
      ∃ V, Ownd k 5 1 d c e V /\ (∀ b ∈ ([v.size] : List Nat), b ∉ blkOf d) /\ (c + 1) * 1 <= 140737488355328 /\ (c + 1) <= maxLen /\
      ∀ sA2 sC2 hv15, Ownd hv15 5 1 sA2 (c + 1) sC2 (V ++ [.int .u8 ((UInt8.toNat g : Nat) : Int)]) -> Fr (blkOf d) k hv15 -> ((sA2 = d /\ sC2 = e) \/ ∃ i, sA2 = some ⟨i, 0, none⟩ /\ k.size <= i) -> (e < (c + 1) -> Fr [] k hv15) ->
      ∃ b16 o16, lP = some ⟨b16, o16, none⟩ /\ ∃ E : Int, hcell hv15 b16 (o16 + 1) = some (.int .i64 E) /\ ∃ b17 o17, lP = some ⟨b17, o17, none⟩ /\ b17 ≠ v.size /\ (∃ f, hcell hv15 b17 (o17 + 1) = some f) /\ hfree hv15 b17 (o17 + 1) = true /\ let Y : Heap := hset hv15 b17 (o17 + 1) (.int .i64 (IntKind.i64.wrap (E + (1 : Int))))
      r [.slice sA2 (c + 1) sC2] Y)
     ∃ b15 o15, lP = some ⟨b15, o15, none⟩ /\ ∃ B : Int, hcell a b15 (o15 + 1) = some (.int .i64 B) /\ callX Tryz.prog 114 #[.int .u8 ((UInt8.toNat g : Nat) : Int)] a [] fun a2 m =>
     ∃ D : Bool, a2 = .bool D /\
     Fr [] a m /\
     cnd D
      (Fr [] a m /\
      callP Tryz.prog 58 #[.bool true, .int .i64 B, .int .i64 15] m [] (fun a3 G =>
      a3 = .tuple #[] /\
      Fr [] a G /\
      J G) Rp)
      (callX Tryz.prog 258 #[.int .u8 ((UInt8.toNat g : Nat) : Int)] m [] fun X H =>
      ∃ W : Bool, X = .bool W /\
      Fr [] a H /\
      callP Tryz.prog 58 #[.bool W, .int .i64 B, .int .i64 15] H [] (fun a0 P =>
      a0 = .tuple #[] /\
      Fr [] a P /\
      J P) Rp))) /\
   ∀ (s : Option Addr) (w t : Nat), ∀ x, r [.slice s w t] x ->
   q [.slice s w t] x /\ S [.slice s w t] x < S [.slice d c e] a))
  (callP Tryz.prog 109 #[.int .i64 L, .int .i64 15] a [] (fun a5 a1 =>
  a5 = .tuple #[] /\
  R (.string (⟨#[]⟩ : ByteArray)) a1) Rp)
theorem calls202 {h : Heap} {R Rp : Value -> Heap -> Prop} (lP : Option Addr) (H : S202 lP h R Rp) : CallsP Tryz.prog 202 #[.pointer lP] h R Rp := by
 have e : S202 lP h R Rp = FX (envP [51, 97] 109 Rp) { loops := [(0, ⟨[0, 3], [4], [], []⟩)], joins := [(72, ⟨[0, 3], [4], [], []⟩)], blocks := [], draws := [(4, ⟨10, false⟩), (5, ⟨10, false⟩), (13, ⟨15, false⟩), (6, ⟨11, false⟩)] } Tryz.f202 (Tryz.f202.body.getD .skip) [.pointer lP] h R := by kernel_rfl
 exact calls_of_FXp (envP_ok _ _ _) Tryz.func202 (by kernel_rfl) (by kernel_rfl) (by kernel_rfl) rfl (e ▸ H)
def S259 (s : ByteArray) (h : Heap) (R : Value -> Heap -> Prop) : Prop :=
 let M : Heap := h.push (.cells #[.string (⟨#[38, 97, 109, 112, 59]⟩ : ByteArray), .string (⟨#[38, 113, 117, 111, 116, 59]⟩ : ByteArray), .string (⟨#[38, 108, 116, 59]⟩ : ByteArray), .string (⟨#[38, 103, 116, 59]⟩ : ByteArray), .string (⟨#[38, 97, 112, 111, 115, 59]⟩ : ByteArray)] 9)
 ∃ (n : List Value -> Heap -> Prop) (F : List Value -> Heap -> Nat), n [.int .i64 0] M /\
 ∀ c : Int, ∀ i, n [.int .i64 c] i ->
 cnd (decide (c < ((5 : Nat) : Int)))
  (∃ b o, (some (⟨h.size, 0, none⟩ : Addr)) = some ⟨b, o, none⟩ /\ 0 <= c /\ c < (5 : Nat) /\ ∃ l : ByteArray, hcell i b (o + (Int.toNat c) * 1) = some (.string l) /\ callX Tryz.prog 130 #[.string s, .string l] i [] fun J k =>
  ∃ t : Bool, J = .bool t /\
  cnd t
   (0 <= c /\ c < (((⟨#[38, 34, 60, 62, 39]⟩ : ByteArray).size : Nat) : Int) /\ ∃ x : UInt8, (⟨#[38, 34, 60, 62, 39]⟩ : ByteArray)[Int.toNat c]? = some x /\ R (.tuple #[.int .u8 ((UInt8.toNat x : Nat) : Int), .int .i64 ((l.size : Nat) : Int)]) k)
   (n [.int .i64 (IntKind.i64.wrap (c + (1 : Int)))] k /\ F [.int .i64 (IntKind.i64.wrap (c + (1 : Int)))] k < F [.int .i64 c] i))
  (callX Tryz.prog 130 #[.string s, .string (⟨#[38, 35]⟩ : ByteArray)] i [] fun L D =>
  ∃ C : Bool, L = .bool C /\
  cnd (!C)
   (R (.tuple #[.int .u8 0, .int .i64 0]) D)
   (let u := fun (p : Int) (d : Int) (f : Heap) =>
    (let j := fun (G : Heap) =>
     (R (.tuple #[.int .u8 0, .int .i64 0]) G)
    cnd (d == (2 : Int))
     (j f)
     (cnd (d == ((s.size : Nat) : Int))
      (j f)
      (0 <= d /\ d < ((s.size : Nat) : Int) /\ ∃ E : UInt8, s[Int.toNat d]? = some E /\ cnd (((UInt8.toNat E : Nat) : Int) != (59 : Int))
       (j f)
       (cnd (decide (p > (126 : Int)))
        (j f)
        (callX Tryz.prog 114 #[.int .u8 (IntKind.u8.wrap p)] f [] fun H z =>
        ∃ y : Bool, H = .bool y /\
        cnd (!y)
         (R (.tuple #[.int .u8 0, .int .i64 0]) z)
         (R (.tuple #[.int .u8 (IntKind.u8.wrap p), .int .i64 (IntKind.i64.wrap (d + (1 : Int)))]) z))))))
   ∃ (r : List Value -> Heap -> Prop) (w : List Value -> Heap -> Nat), r [.int .i64 0, .int .i64 2] D /\
   ∀ e : Int, ∀ a : Int, ∀ g, r [.int .i64 e, .int .i64 a] g ->
   let v := fun (K : Heap) =>
    (u e a K)
   cnd (decide (a < ((s.size : Nat) : Int)))
    (cnd (decide (a < (5 : Int)))
     (0 <= a /\ a < ((s.size : Nat) : Int) /\ ∃ B : UInt8, s[Int.toNat a]? = some B /\ callX Tryz.prog 206 #[.int .u8 ((UInt8.toNat B : Nat) : Int)] g [] fun I q =>
     ∃ A : Bool, I = .bool A /\
     cnd A
      (0 <= a /\ a < ((s.size : Nat) : Int) /\ ∃ m : UInt8, s[Int.toNat a]? = some m /\ r [.int .i64 (IntKind.i64.wrap ((IntKind.i64.wrap ((10 : Int) * e)) + (IntKind.i64.wrap (IntKind.u8.wrap (((UInt8.toNat m : Nat) : Int) - (48 : Int)))))), .int .i64 (IntKind.i64.wrap (a + (1 : Int)))] q /\ w [.int .i64 (IntKind.i64.wrap ((IntKind.i64.wrap ((10 : Int) * e)) + (IntKind.i64.wrap (IntKind.u8.wrap (((UInt8.toNat m : Nat) : Int) - (48 : Int)))))), .int .i64 (IntKind.i64.wrap (a + (1 : Int)))] q < w [.int .i64 e, .int .i64 a] g)
      (u e a q))
     (v g))
    (v g)))
theorem calls259 {h : Heap} {R : Value -> Heap -> Prop} (s : ByteArray) (H : S259 s h R) : CallsH Tryz.prog 259 #[.string s] h R := by
 have e : S259 s h R = FX (envX [] 78) { loops := [(0, ⟨[0, 8, 9], [10], [], []⟩), (2, ⟨[0], [6, 7], [], []⟩)], joins := [], blocks := [], draws := [] } Tryz.f259 (Tryz.f259.body.getD .skip) [.string s] h R := by kernel_rfl
 exact calls_of_FX (envX_ok _ _) Tryz.func259 (by kernel_rfl) (by kernel_rfl) (by kernel_rfl) (e ▸ H)
def S149 (lP : Option Addr) (h : Heap) (R Rp : Value -> Heap -> Prop) : Prop :=
 let d4 : Heap := h.push (.cells #[.int .i64 0, .int .i64 0, .string ByteArray.empty, .float .f64 0] 156)
 callX Tryz.prog 201 #[.pointer lP] d4 [h.size] fun c5 a =>
 c5 = .tuple #[] /\
 ∃ b o, lP = some ⟨b, o, none⟩ /\ ∃ c : Int, hcell a b (o + 1) = some (.int .i64 c) /\ let d2 : Heap := a.push (.cells #[.int .i64 0, .int .i64 0, .string ByteArray.empty, .float .f64 0] 156)
 let f : Heap := hset (hset (hset (hset d2 a.size 0 (.int .i64 0)) a.size (0 + 1) (.int .i64 c)) a.size ((0 + 1) + 1) (.string ByteArray.empty)) a.size (((0 + 1) + 1) + 1) (.float .f64 0)
 ∃ b2 o2, lP = some ⟨b2, o2, none⟩ /\ ∃ I : Int, hcell f b2 (o2 + 1) = some (.int .i64 I) /\ ∃ b3 o3, lP = some ⟨b3, o3, none⟩ /\ ∃ L : ByteArray, hcell f b3 o3 = some (.string L) /\ cnd (I == ((L.size : Nat) : Int))
  (let d7 : Heap := hset (hset (hset (hset f h.size 0 (.int .i64 0)) h.size (0 + 1) (.int .i64 c)) h.size ((0 + 1) + 1) (.string ByteArray.empty)) h.size (((0 + 1) + 1) + 1) (.float .f64 0)
  R (.agg #[.int .i64 0, .int .i64 c, .string ByteArray.empty, .float .f64 0]) d7)
  (∃ b4 o4, lP = some ⟨b4, o4, none⟩ /\ ∃ B : ByteArray, hcell f b4 o4 = some (.string B) /\ ∃ b5 o5, lP = some ⟨b5, o5, none⟩ /\ ∃ n : Int, hcell f b5 (o5 + 1) = some (.int .i64 n) /\ 0 <= n /\ n < ((B.size : Nat) : Int) /\ ∃ e : UInt8, B[Int.toNat n]? = some e /\ ∃ t : List Value -> Heap -> Prop,
  ( cnd (((UInt8.toNat e : Nat) : Int) == (91 : Int))
    (let q : Heap := hset f a.size 0 (.int .i64 1)
    ∃ b6 o6, lP = some ⟨b6, o6, none⟩ /\ ∃ Y : Int, hcell q b6 (o6 + 1) = some (.int .i64 Y) /\ ∃ b7 o7, lP = some ⟨b7, o7, none⟩ /\ b7 ≠ a.size /\ b7 ≠ h.size /\ (∃ y, hcell q b7 (o7 + 1) = some y) /\ hfree q b7 (o7 + 1) = true /\ let c2 : Heap := hset q b7 (o7 + 1) (.int .i64 (IntKind.i64.wrap (Y + (1 : Int))))
    t [.int .i64 1, .int .i64 c, .string ByteArray.empty, .float .f64 0] c2)
    (∃ A : List Value -> Heap -> Prop,
    ( cnd (((UInt8.toNat e : Nat) : Int) == (93 : Int))
     (let p : Heap := hset f a.size 0 (.int .i64 2)
     ∃ b8 o8, lP = some ⟨b8, o8, none⟩ /\ ∃ J : Int, hcell p b8 (o8 + 1) = some (.int .i64 J) /\ ∃ b9 o9, lP = some ⟨b9, o9, none⟩ /\ b9 ≠ a.size /\ b9 ≠ h.size /\ (∃ y, hcell p b9 (o9 + 1) = some y) /\ hfree p b9 (o9 + 1) = true /\ let d3 : Heap := hset p b9 (o9 + 1) (.int .i64 (IntKind.i64.wrap (J + (1 : Int))))
     A [.int .i64 2, .int .i64 c, .string ByteArray.empty, .float .f64 0] d3)
     (∃ u : List Value -> Heap -> Prop,
     ( cnd (((UInt8.toNat e : Nat) : Int) == (34 : Int))
       (callP Tryz.prog 202 #[.pointer lP] f [a.size, h.size] (fun c9 a9 =>
       ∃ x : ByteArray, c9 = .string x /\
       let b0 : Heap := hset a9 a.size 0 (.int .i64 5)
       let c7 : Heap := hset b0 a.size 2 (.string x)
       u [.int .i64 5, .int .i64 c, .string x, .float .f64 0] c7) Rp)
       (callX Tryz.prog 203 #[.int .u8 ((UInt8.toNat e : Nat) : Int)] f [a.size, h.size] fun d6 a2 =>
       ∃ Q : Bool, d6 = .bool Q /\
       ∃ g : List Value -> Heap -> Prop,
       ( cnd Q
        (let c6 : Heap := hset a2 a.size 0 (.int .i64 3)
        callX Tryz.prog 204 #[.pointer lP, .func (.func 205) #[] #[]] c6 [a.size, h.size] fun c4 c0 =>
        ∃ r : ByteArray, c4 = .string r /\
        let d5 : Heap := hset c0 a.size 2 (.string r)
        g [.int .i64 3, .int .i64 c, .string r, .float .f64 0] d5)
        (callX Tryz.prog 206 #[.int .u8 ((UInt8.toNat e : Nat) : Int)] a2 [a.size, h.size] fun d0 i =>
        ∃ a1 : Bool, d0 = .bool a1 /\
        cnd a1
         (let k : Heap := hset i a.size 0 (.int .i64 4)
         callX Tryz.prog 204 #[.pointer lP, .func (.func 207) #[] #[]] k [a.size, h.size] fun j l =>
         ∃ d : ByteArray, j = .string d /\
         let m : Heap := hset l a.size 2 (.string d)
         g [.int .i64 4, .int .i64 c, .string d, .float .f64 0] m)
         (cnd (((UInt8.toNat e : Nat) : Int) == (43 : Int))
          (let k : Heap := hset i a.size 0 (.int .i64 4)
          callX Tryz.prog 204 #[.pointer lP, .func (.func 207) #[] #[]] k [a.size, h.size] fun j l =>
          ∃ d : ByteArray, j = .string d /\
          let m : Heap := hset l a.size 2 (.string d)
          g [.int .i64 4, .int .i64 c, .string d, .float .f64 0] m)
          (cnd (((UInt8.toNat e : Nat) : Int) == (45 : Int))
           (let k : Heap := hset i a.size 0 (.int .i64 4)
           callX Tryz.prog 204 #[.pointer lP, .func (.func 207) #[] #[]] k [a.size, h.size] fun j l =>
           ∃ d : ByteArray, j = .string d /\
           let m : Heap := hset l a.size 2 (.string d)
           g [.int .i64 4, .int .i64 c, .string d, .float .f64 0] m)
           (∃ C : List Value -> Heap -> Prop,
           ( cnd (((UInt8.toNat e : Nat) : Int) == (46 : Int))
             (let c8 : Heap := hset i a.size 0 (.int .i64 4)
             callX Tryz.prog 204 #[.pointer lP, .func (.func 207) #[] #[]] c8 [a.size, h.size] fun b1 d1 =>
             ∃ z : ByteArray, b1 = .string z /\
             let d8 : Heap := hset d1 a.size 2 (.string z)
             C [.int .i64 4, .int .i64 c, .string z, .float .f64 0] d8)
             (∃ b10 o10, lP = some ⟨b10, o10, none⟩ /\ ∃ a4 : Int, hcell i b10 (o10 + 1) = some (.int .i64 a4) /\ callP Tryz.prog 109 #[.int .i64 a4, .int .i64 15] i [a.size, h.size] (fun c3 a8 =>
             c3 = .tuple #[] /\
             C [.int .i64 0, .int .i64 c, .string ByteArray.empty, .float .f64 0] a8) Rp)) /\
           ∀ Z : Int, ∀ E : Int, ∀ P : ByteArray, ∀ M : Nat, ∀ a3, C [.int .i64 Z, .int .i64 E, .string P, .float .f64 M] a3 ->
           g [.int .i64 Z, .int .i64 E, .string P, .float .f64 M] a3))))) /\
       ∀ O : Int, ∀ a5 : Int, ∀ N : ByteArray, ∀ T : Nat, ∀ S, g [.int .i64 O, .int .i64 a5, .string N, .float .f64 T] S ->
       u [.int .i64 O, .int .i64 a5, .string N, .float .f64 T] S)) /\
     ∀ V : Int, ∀ K : Int, ∀ a7 : ByteArray, ∀ X : Nat, ∀ H, u [.int .i64 V, .int .i64 K, .string a7, .float .f64 X] H ->
     A [.int .i64 V, .int .i64 K, .string a7, .float .f64 X] H)) /\
    ∀ a0 : Int, ∀ F : Int, ∀ a6 : ByteArray, ∀ W : Nat, ∀ U, A [.int .i64 a0, .int .i64 F, .string a6, .float .f64 W] U ->
    t [.int .i64 a0, .int .i64 F, .string a6, .float .f64 W] U)) /\
  ∀ D : Int, ∀ s : Int, ∀ v : ByteArray, ∀ w : Nat, ∀ G, t [.int .i64 D, .int .i64 s, .string v, .float .f64 w] G ->
  let c1 : Heap := hset (hset (hset (hset G h.size 0 (.int .i64 D)) h.size (0 + 1) (.int .i64 s)) h.size ((0 + 1) + 1) (.string v)) h.size (((0 + 1) + 1) + 1) (.float .f64 w)
  R (.agg #[.int .i64 D, .int .i64 s, .string v, .float .f64 w]) c1)
theorem calls149 {h : Heap} {R Rp : Value -> Heap -> Prop} (lP : Option Addr) (H : S149 lP h R Rp) : CallsP Tryz.prog 149 #[.pointer lP] h R Rp := by
 have e : S149 lP h R Rp = FX (envP [2, 3] 93 Rp) { loops := [], joins := [(37, ⟨[2, 3], [], [2], [3]⟩), (48, ⟨[2, 3], [], [2], [3]⟩), (59, ⟨[2, 3], [], [2], [3]⟩), (66, ⟨[2, 3], [], [2], [3]⟩), (73, ⟨[2, 3], [], [2], [3]⟩)], blocks := [], draws := [(3, ⟨10, false⟩), (5, ⟨10, false⟩)] } Tryz.f149 (Tryz.f149.body.getD .skip) [.pointer lP] h R := by kernel_rfl
 exact calls_of_FXp (envP_ok _ _ _) Tryz.func149 (by kernel_rfl) (by kernel_rfl) (by kernel_rfl) rfl (e ▸ H)
def S208 (t : Int) (t2 : Int) (t3 : ByteArray) (t4 : Nat) (h : Heap) (R Rp : Value -> Heap -> Prop) : Prop :=
 let a : Heap := h.push (.cells #[.int .i64 t, .int .i64 t2, .string t3, .float .f64 t4] 156)
 let r : Heap := a.push (.cells #[.int .i64 0, .int .i64 0, .string ByteArray.empty, .float .f64 0] 156)
 let q := fun (A : Bool) (b : Heap) =>
  (cnd A
   (callP Tryz.prog 109 #[.int .i64 t2, .int .i64 15] b [a.size, h.size] (fun L F =>
   L = .tuple #[] /\
   let H : Heap := hset (hset (hset (hset F a.size 0 (.int .i64 t)) a.size (0 + 1) (.int .i64 t2)) a.size ((0 + 1) + 1) (.string t3)) a.size (((0 + 1) + 1) + 1) (.float .f64 t4)
   R (.agg #[.int .i64 t, .int .i64 t2, .string t3, .float .f64 t4]) H) Rp)
   (∃ f : List Value -> Heap -> Prop,
   ( cnd (t == (3 : Int))
     (let o := fun (E : Heap) =>
      (let x : Heap := hset E h.size 0 (.int .i64 4)
      callX Tryz.prog 260 #[.string t3] x [a.size, h.size] fun J D =>
      ∃ g : Nat, ∃ C : Int, J = .tuple #[.float .f64 g, .int .i64 C] /\
      let y : Heap := hset D h.size 3 (.float .f64 g)
      f [.int .i64 4, .int .i64 t2, .string t3, .float .f64 g] y)
     cnd (t3.toList == (⟨#[78, 97, 78]⟩ : ByteArray).toList)
      (callP Tryz.prog 58 #[.bool true, .int .i64 t2, .int .i64 16] b [a.size, h.size] (fun P O =>
      P = .tuple #[] /\
      o O) Rp)
      (callP Tryz.prog 58 #[.bool (t3.toList == (⟨#[73, 78, 70]⟩ : ByteArray).toList), .int .i64 t2, .int .i64 16] b [a.size, h.size] (fun K G =>
      K = .tuple #[] /\
      o G) Rp))
     (∃ d : List Value -> Heap -> Prop,
     ( cnd (t == (4 : Int))
      (callX Tryz.prog 260 #[.string t3] b [a.size, h.size] fun w z =>
      ∃ e : Nat, ∃ l : Int, w = .tuple #[.float .f64 e, .int .i64 l] /\
      callP Tryz.prog 58 #[.bool (l == (0 : Int)), .int .i64 t2, .int .i64 l] z [a.size, h.size] (fun I N =>
      I = .tuple #[] /\
      let M : Heap := hset N h.size 3 (.float .f64 e)
      d [.int .i64 t, .int .i64 t2, .string t3, .float .f64 e] M) Rp)
      (d [.int .i64 t, .int .i64 t2, .string t3, .float .f64 t4] b)) /\
     ∀ p : Int, ∀ m : Int, ∀ v : ByteArray, ∀ u : Nat, ∀ s, d [.int .i64 p, .int .i64 m, .string v, .float .f64 u] s ->
     f [.int .i64 p, .int .i64 m, .string v, .float .f64 u] s)) /\
   ∀ j : Int, ∀ k : Int, ∀ i : ByteArray, ∀ c : Nat, ∀ n, f [.int .i64 j, .int .i64 k, .string i, .float .f64 c] n ->
   let B : Heap := hset (hset (hset (hset n a.size 0 (.int .i64 j)) a.size (0 + 1) (.int .i64 k)) a.size ((0 + 1) + 1) (.string i)) a.size (((0 + 1) + 1) + 1) (.float .f64 c)
   R (.agg #[.int .i64 j, .int .i64 k, .string i, .float .f64 c]) B))
 cnd (t == (0 : Int))
  (q (t == (0 : Int)) r)
  (q (t == (2 : Int)) r)
theorem calls208 {h : Heap} {R Rp : Value -> Heap -> Prop} (t : Int) (t2 : Int) (t3 : ByteArray) (t4 : Nat) (H : S208 t t2 t3 t4 h R Rp) : CallsP Tryz.prog 208 #[.agg #[.int .i64 t, .int .i64 t2, .string t3, .float .f64 t4]] h R Rp := by
 have e : S208 t t2 t3 t4 h R Rp = FX (envP [1, 2] 51 Rp) { loops := [], joins := [(13, ⟨[1, 2], [], [2], [1]⟩), (34, ⟨[1, 2], [], [2], [1]⟩)], blocks := [], draws := [] } Tryz.f208 (Tryz.f208.body.getD .skip) [.agg #[.int .i64 t, .int .i64 t2, .string t3, .float .f64 t4]] h R := by kernel_rfl
 exact calls_of_FXp (envP_ok _ _ _) Tryz.func208 (by kernel_rfl) (by kernel_rfl) (by kernel_rfl) rfl (e ▸ H)
end Go.Proofs.YtlflalecmhgmjaaGreatDoor.N
