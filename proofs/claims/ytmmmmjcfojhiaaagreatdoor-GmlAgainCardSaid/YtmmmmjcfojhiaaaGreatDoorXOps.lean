/- The heap-level words of the walks: frames between heaps, contracts that speak of heaps alone, abstract values and states. Conditions: none. -/
import Derived.WalkKit
import Derived.Deep.Quiet
set_option linter.unusedVariables false
set_option linter.unusedSimpArgs false
theorem PA {P:Prop} (h:P:=by omega):P:=h
theorem PB {P:Prop} (h:P:=by decide):P:=h
theorem PC {P:Prop} (h:P:=by simp):P:=h
theorem PD {P:Prop} (h:P:=by kernel_rfl):P:=h
theorem PE {P:Prop} (h:P:=by grind):P:=h
theorem PF {P:Prop} (h:P:=by rfl):P:=h
theorem PH {P:Prop} (h:P:=by simp;omega):P:=h
abbrev PN:Int->Go.Value:=Go.Value.int .i64
abbrev PO:Int->Go.Value:=Go.Value.int .u64
abbrev PR:Int->Go.Value:=Go.Value.int .u8
abbrev PS:Nat->Go.Value:=Go.Value.float .f64
abbrev PT:Option Go.Addr->Nat->Nat->Go.Value:=Go.Value.slice
abbrev PU:ByteArray->Go.Value:=Go.Value.string
abbrev PV:Bool->Go.Value:=Go.Value.bool
abbrev PW:Option Go.Addr->Go.Value:=Go.Value.pointer
abbrev PY:Type:=Option Go.Addr
abbrev PZ:Type:=List UInt8
abbrev P0:Type:=ByteArray
abbrev P1:=@Nat.mul_le_mul_right
abbrev P3:=@Nat.le_refl
abbrev P4:=@Nat.eq_of_beq_eq_true
abbrev P5:=@Nat.mul_lt_mul_of_pos_right
abbrev P6:=@Bool.and_eq_true
abbrev P7:=@Nat.pow_le_pow_right
abbrev P8:=@Int.toNat_natCast
abbrev P9:=@List.length_append
abbrev Qa:=@List.mem_of_getElem?
abbrev Qb:=@List.eq_nil_of_length_eq_zero
abbrev Qc:=@Nat.pow_add
abbrev Qd:=@List.mem_cons
abbrev Qe:=@List.mem_append
abbrev Qf:=@Nat.lt_of_le_of_lt
abbrev Qg:=@Nat.le_trans
abbrev Qh:=@List.not_mem_nil
abbrev Qi:=@List.mem_singleton
abbrev Qj:=@List.append_assoc
abbrev Qk:=@List.length_cons
abbrev Ql:=@Nat.pow_pos
abbrev Qm:=@Nat.mul_assoc
abbrev Qn:=@Nat.add_mul
abbrev Qo:=@Nat.mul_comm
abbrev Qp:=@Int.mul_le_mul_of_nonneg_right
abbrev Qq:=@Bool.false_eq_true
abbrev Qr:=@Nat.le_of_ble_eq_true
abbrev Qs:=@Nat.pow_lt_pow_iff_right
abbrev Qt:=@Nat.div_div_eq_div_mul
abbrev Qu:=@Nat.zero_add
abbrev Qv:=@Nat.and_two_pow_sub_one_eq_mod
abbrev Qw:=@Nat.le_mul_of_pos_right
abbrev Qx:=@List.all_eq_true
abbrev Qy:=@Nat.mul_one
abbrev Qz:=@List.drop_eq_getElem_cons
abbrev QA:=@List.length_replicate
abbrev QB:=@List.cons_append
abbrev QC:=@Nat.div_add_mod
abbrev QD:=@Nat.two_pow_pos
abbrev QE:=@UInt8.toNat_inj
abbrev QF:=@List.take_of_length_le
abbrev QG:=@Nat.mod_lt
abbrev QH:=@Nat.lt_of_mul_lt_mul_right
abbrev QI:=@Nat.mul_pos
abbrev QJ:=@Nat.div_eq_of_lt
abbrev QK:=@Bool.not_eq_true
abbrev QL:=@Option.map_some
abbrev QM:=@List.flatMap_cons
abbrev QO:=@List.mem_iff_getElem?
abbrev QP:=@Nat.mul_le_mul_left
abbrev QQ:=@List.mem_cons_of_mem
abbrev QR:=@Nat.pow_succ
abbrev QS:=@Option.map_eq_some_iff
abbrev QT:=@Nat.lt_of_lt_of_le
abbrev QU:=@Nat.zero_le
abbrev QV:=@Nat.le_div_iff_mul_le
abbrev QW:=@Nat.shiftLeft_eq
abbrev QX:=@Nat.eq_of_mul_eq_mul_right
abbrev QY:=@Nat.min_eq_left
abbrev QZ:=@List.append_nil
abbrev Ra:=@Nat.mod_eq_of_lt
abbrev Rb:=@Int.toNat_of_nonneg
abbrev Rc:=@Bool.not_eq_true'
abbrev Re:=@List.ext_getElem?
abbrev Rf:=@List.take_add_one
abbrev Rg:=@List.length_map
abbrev Rh:=@Nat.mul_div_cancel_left
abbrev Ri:=@Nat.le_of_not_lt
abbrev Rj:=@List.mem_map
abbrev Rk:=@ByteArray.data_extract
abbrev Rl:=@Nat.mod_eq_zero_of_dvd
abbrev Rm:=@List.mem_or_eq_of_mem_set
abbrev Rn:=@Bool.true_and
abbrev Rq:=@List.nil_append
abbrev Rr:=@Bool.eq_iff_iff
abbrev Rs:=@List.length_singleton
abbrev Rt:=@Array.mem_of_getElem?
abbrev Ru:=@Nat.div_lt_iff_lt_mul
abbrev Rv:=@Int.natCast_nonneg
abbrev Ry:=@List.length_drop
abbrev Rz:=@Nat.one_mul
abbrev RA:=@Nat.pow_zero
abbrev RB:=@List.mem_range
abbrev RC:=@Nat.sub_zero
abbrev RE:=@Nat.log2_eq_iff
abbrev RF:=@List.drop_eq_nil_of_le
abbrev RG:=@Nat.mod_two_eq_zero_or_one
abbrev RH:=@List.exists_cons_of_ne_nil
abbrev RJ:=@List.getElem_mem
abbrev RK:=@List.take_length
abbrev RL:=@Nat.zero_mul
abbrev RM:=@Nat.mul_div_mul_right
abbrev RN:=@Nat.mul_le_mul
abbrev RP:=@Nat.lt_of_mul_lt_mul_left
abbrev RQ:=@Nat.div_lt_of_lt_mul
abbrev RR:=@Array.toList_extract
abbrev RT:=@Int.natCast_add
abbrev RU:=@Nat.add_zero
abbrev RV:=@Nat.le_of_lt
abbrev RX:=@List.takeWhile_cons
abbrev RY:=@Nat.lt_of_not_le
abbrev RZ:=@Nat.mul_div_cancel
abbrev R0:=@Nat.pos_of_ne_zero
abbrev R1:=@Option.toList_some
abbrev R2:=@Bool.or_eq_true
abbrev R3:=@Int.natCast_mul
abbrev R4:=@Nat.div_le_self
abbrev R5:=@Nat.two_pow_add_eq_or_of_lt
abbrev R6:=@Nat.or_lt_two_pow
abbrev R7:=@Nat.le_of_mul_le_mul_right
abbrev R8:=@List.mem_of_mem_take
abbrev Sa:=@List.drop_zero
abbrev Sb:=@List.extract_eq_take_drop
abbrev Sc:=@Nat.xor_mod_two_pow
abbrev Sd:=@List.length_set
abbrev Se:=@List.map_cons
abbrev Sf:=@Int.natAbs_natCast
abbrev Sg:=@UInt8.toNat_ofNat'
abbrev Si:=@Array.mem_def
abbrev Sj:=@Nat.ne_of_gt
namespace Go.X
abbrev ab :=Array Obj
structure Rest (w w':World):Prop where
 os:w'.os=w.os
 tape:w'.tape=w.tape
 output:w'.output=w.output
 ko:w.heap.size<=w'.heap.size
theorem Rest.refl (w:World):Rest w w:=⟨rfl,rfl,rfl,P3 _⟩
theorem Rest.trans {a b c:World} (h:Rest a b) (k:Rest b c):Rest a c:=⟨k.os.trans h.os,k.tape.trans h.tape,k.output.trans h.output,Qg h.ko k.ko⟩
theorem Rest.setCell (w:World) (a:Addr) (v:Value):Rest w (w.setCell a v):=⟨rfl,rfl,rfl,by simp_all⟩
theorem Rest.alloc (w:World) (o:Obj):Rest w (w.alloc o):=⟨rfl,rfl,rfl,PC⟩
theorem Rest.drew (w:World):Rest w w.drew:=⟨rfl,rfl,rfl,P3 _⟩
def ac (h:ab) (b o:Nat):Option Value:=
 match h[b]? with
 | some (.cells c _ _)=>c[o]?
 | _=>none
def aq (h:ab) (b o:Nat):Bool:=
 match h[b]? with
 | some (.cells c _ (lo,hi))=> !(decide (lo<=o)&&decide (o<hi))||decide (c.size<=o)
 | _=>false
def aj (h:ab) (b o:Nat) (v:Value):ab:=h.modify b fun
 | .cells c elem frozen=>.cells (c.setIfInBounds o v) elem frozen
 | o=>o
theorem bz (w:World) (b o:Nat):w.cell? ⟨b,o,none⟩=ac w.heap b o:=by
 simp only[World.cell?,ac]
 grind
theorem qD {w:World} {b o:Nat} {u:Value} (hc:ac w.heap b o=some u) (h:aq w.heap b o=true):w.frozen? ⟨b,o,none⟩=false:=by
 simp only[World.frozen?,aq,ac]at*
 grind
theorem heap_setCell (w:World) (b o:Nat) (v:Value):(w.setCell ⟨b,o,none⟩ v).heap=aj w.heap b o v:=rfl
theorem bO {h:ab} {b o:Nat} {v:Value} {c:Array Value} {t:TypeId} {f:Nat × Nat} (hb:h[b]? =some (.cells c t f)):
  (aj h b o v)[b]? =some (.cells (c.setIfInBounds o v) t f):=by
 simp[aj,Array.getElem?_modify,hb]
theorem fI {h:ab} {b o b':Nat} {v:Value} (hb:b'≠b):(aj h b o v)[b']? =h[b']? :=by
 simp[aj,Array.getElem?_modify,Ne.symm hb]
@[simp] theorem sN (h : ab) (b o : Nat) (v : Value) : (aj h b o v).size = h.size := by simp [aj]
structure Fr (M:List Nat) (h h':ab):Prop where
 size:h.size<=h'.size
 blk:∀b,b<h.size->b∉M->h'[b]? =h[b]?
theorem Fr.refl (M:List Nat) (h:ab):Fr M h h:=⟨P3 _,fun _ _ _=>rfl⟩
theorem Fr.trans {M:List Nat} {a b c:ab} (h:Fr M a b) (k:Fr M b c):Fr M a c:=
 ⟨Qg h.size k.size,fun i hi hm=>(k.blk i (QT hi h.size) hm).trans (h.blk i hi hm)⟩
theorem Fr.mono {M N:List Nat} {a b:ab} (h:Fr M a b) (hmn:∀x,x∈M->x∈N):Fr N a b:=
 ⟨h.size,fun i hi hm=>h.blk i hi (fun hh=>hm (hmn i hh))⟩
theorem Fr.late {M N:List Nat} {a b:ab} (h:Fr M a b) (hmn:∀x,x∈M->x∈N\/a.size<=x):Fr N a b:=
 ⟨h.size,fun i hi hm=>h.blk i hi (fun hh=>(hmn i hh).elim hm (fun e=>by omega))⟩
theorem Fr.nil {M:List Nat} {a b:ab} (h:Fr [] a b):Fr M a b:=h.mono PC
theorem Fr.push (h:ab) (o:Obj):Fr [] h (h.push o):=
 ⟨PC,fun b hb _=>by grind⟩
theorem Fr.hset (h:ab) (b o:Nat) (v:Value):Fr [b] h (aj h b o v):=
 ⟨PC,fun i _ hm=>fI (by simpa using hm)⟩
theorem Fr.blk_some {M:List Nat} {a b:ab} (h:Fr M a b) {i:Nat} {o:Obj} (hi:a[i]? =some o) (hm:i∉M):b[i]? =some o:=
 (h.blk i (Array.getElem?_eq_some_iff.1 hi).1 hm).trans hi
theorem bJ {h:ab} {b o:Nat} {v:Value} (hc:ac h b o=some v):b<h.size:=by
 grind [ac]
theorem di {h h':ab} {b:Nat} (hb:h'[b]? =h[b]?) (o:Nat):ac h' b o=ac h b o:=by simp[ac,hb]
theorem nM {h h':ab} {b:Nat} (hb:h'[b]? =h[b]?) (o:Nat):aq h' b o=aq h b o:=by simp[aq,hb]
theorem Fr.cell {M:List Nat} {a b:ab} (h:Fr M a b) {i o:Nat} {v:Value} (hc:ac a i o=some v) (hm:i∉M):ac b i o=some v:=
 (di (h.blk i (bJ hc) hm) o).trans hc
theorem bs {h:ab} {b:Nat} {c:Array Value} {t:TypeId} {f:Nat × Nat} (hb:h[b]? =some (.cells c t f)) (o:Nat):ac h b o=c[o]? :=by simp[ac,hb]
theorem iQ {h:ab} {b:Nat} {c:Array Value} {t:TypeId} (hb:h[b]? =some (.cells c t (0,0))) (o:Nat):aq h b o=true:=by simp[aq,hb]
def Fz (f:Nat × Nat) (n:Nat):Prop:=f=(0,0)\/n<=f.1
def Blk (h:ab) (b:Nat) (e:TypeId) (c:Array Value):Prop:=∃f,h[b]? =some (.cells c e f)/\Fz f c.size
theorem Blk.of {h:ab} {b:Nat} {e:TypeId} {c:Array Value} (hb:h[b]? =some (.cells c e (0,0))):Blk h b e c:=⟨_,hb,.inl rfl⟩
theorem Blk.free {h:ab} {b:Nat} {e:TypeId} {c:Array Value} (H:Blk h b e c) (o:Nat):aq h b o=true:=by
 obtain⟨f,hb,hf⟩:=H
 simp only[aq,hb,R2,Rc,Bool.and_eq_false_iff,decide_eq_false_iff_not,decide_eq_true_eq]
 rcases hf with rfl | hf
 ·simp
 ·omega
theorem Blk.cell {h:ab} {b:Nat} {e:TypeId} {c:Array Value} (H:Blk h b e c) (o:Nat):ac h b o=c[o]? :=let ⟨_,hb,_⟩:=H;bs hb o
theorem Blk.lt {h:ab} {b:Nat} {e:TypeId} {c:Array Value} (H:Blk h b e c):b<h.size:=let ⟨_,hb,_⟩:=H;(Array.getElem?_eq_some_iff.1 hb).1
theorem Blk.congr {h h':ab} {b:Nat} {e:TypeId} {c:Array Value} (H:Blk h b e c) (q:h'[b]? =h[b]?):Blk h' b e c:=let ⟨f,hb,hf⟩:=H;⟨f,q.trans hb,hf⟩
theorem Blk.set {h:ab} {b:Nat} {e:TypeId} {c:Array Value} (H:Blk h b e c) (o:Nat) (v:Value):Blk (aj h b o v) b e (c.setIfInBounds o v):=let ⟨f,hb,hf⟩:=H;⟨f,bO hb,by simpa using hf⟩
def af (P:Program) (f:FuncId) (args:Array Value) (h:ab) (R:Value->ab->Prop):Prop:=
 ∀w:World,w.heap=h->Calls P f args w fun e w'=>∃v,e= .returned v/\Rest w w'/\R v w'.heap
theorem af.mono {P:Program} {f:FuncId} {args:Array Value} {h:ab} {R R':Value->ab->Prop} (c:af P f args h R)
  (hr:∀v h',R v h'->R' v h'):af P f args h R':=
 fun w hw=>(c w hw).mono fun _ _ ⟨v,e1,e2,e3⟩=>⟨v,e1,e2,hr _ _ e3⟩
inductive AVal where
 | val (v:Value)
 | lit (b:Bool)
 | ptr (b o:Nat)
 | sl (b o len cap:Nat)
 | loc (s o:Nat)
 | row (s n:Nat)
structure Priv where
 slot:Nat
 blk:Nat
 elem:TypeId
 cells:List Value
structure St where
 fr:List (Nat × AVal)
 lc:List Priv
def look (l:List (Nat × AVal)) (t:Nat):Option AVal:=
 match l with
 | []=>none
 | (k,v)::r=>match Nat.beq k t with
  | true=>some v
  | false=>look r t
def ar (l:List Priv) (s:Nat):Option Priv:=
 match l with
 | []=>none
 | p::r=>match Nat.beq p.slot s with
  | true=>some p
  | false=>ar r s
def AVal.out :AVal->Option Value
 | .val v=>some v
 | .lit b=>some (.bool b)
 | .ptr b o=>some (.pointer (some ⟨b,o,none⟩))
 | .sl b o n c=>some (.slice (some ⟨b,o,none⟩) n c)
 | _=>none
def AVal.conc (lc:List Priv):AVal->Option Value
 | .val v=>some v
 | .lit b=>some (.bool b)
 | .ptr b o=>some (.pointer (some ⟨b,o,none⟩))
 | .sl b o n c=>some (.slice (some ⟨b,o,none⟩) n c)
 | .loc s o=>(ar lc s).map fun p=>.pointer (some ⟨p.blk,o,none⟩)
 | .row s n=>(ar lc s).map fun p=>.slice (some ⟨p.blk,0,none⟩) n n
theorem AVal.conc_out {x:AVal} {v:Value} (h:x.out=some v) (lc:List Priv):x.conc lc=some v:=by
 cases x<;>simp_all[AVal.out,AVal.conc]
def Ox (lc:List Priv) (h:ab):Prop:=∀s p,ar lc s=some p->h[p.blk]? =some (.cells p.cells.toArray p.elem (0,0))
def Oy (lc:List Priv):Prop:=∀s t p q,ar lc s=some p->ar lc t=some q->s≠t->p.blk≠q.blk
def yl (st:St) (a:Act):Prop:=∀t x,look st.fr t=some x->∃v,x.conc st.lc=some v/\a.tmps[t]? =some v
structure Rel (st:St) (a:Act) (w:World):Prop where
 fr:yl st a
 pr:Ox st.lc w.heap
 ap:Oy st.lc
 df:a.defers=[]
structure RelL (L:List Priv) (st:St) (a:Act) (w:World):Prop where
 fr:yl st a
 pl:∀s p,ar L s=some p->ar st.lc s=some p/\w.heap[p.blk]? =some (.cells p.cells.toArray p.elem (0,0))
theorem Rel.toL {st:St} {a:Act} {w:World} (r:Rel st a w):RelL st.lc st a w:=⟨r.fr,fun s p h=>⟨h,r.pr s p h⟩⟩
def ev (st:St):Operand->Option AVal
 | .tmp t=>look st.fr t
 | .const (.bool b)=>some (.lit b)
 | .const v=>some (.val v)
 | .global g=>some (.ptr g 0)
 | .func f=>some (.val (.func (.func f) #[] #[]))
theorem aQ {st:St} {a:Act} (r:yl st a) {x:Operand} {y:AVal} (h:ev st x=some y):
  ∃v,y.conc st.lc=some v/\a.eval x=v:=by
 cases x with
 | tmp t=>
  obtain⟨v,h1,h2⟩:=r t y h
  exact⟨v,h1,by simp[Act.eval,h2]⟩
 | const v=>
  cases v<;>simp[ev]at h<;>subst h<;>exact⟨_,rfl,rfl⟩
 | global g=>simp[ev]at h;subst h;exact⟨_,rfl,rfl⟩
 | func f=>simp[ev]at h;subst h;exact⟨_,rfl,rfl⟩
def evo (st:St) (x:Operand):Option Value:=(ev st x).bind AVal.out
theorem bu {st:St} {a:Act} (r:yl st a) {x:Operand} {v:Value} (h:evo st x=some v):a.eval x=v:=by
 unfold evo at h
 cases hx:ev st x<;>grind [ev,aQ,AVal.conc_out,Option.some.inj]
def St.put (st:St) (dst:Option Tmp) (x:AVal):St:=
 match dst with
 | some d=>{st with fr:=(d,x)::st.fr}
 | none=>st
end Go.X
/- What one deterministic operation yields over an abstract state, and that the model's operation does so. Conditions: the table of types is the program's. -/
namespace Go.X
inductive Sh where
 | int (k:IntKind) | bool | slice | ptr | float (k:FloatKind) | str | func | ifc | map
def Sh.ex :Sh->(Value->Prop)->Prop
 | .int k,K=>∃n:Int,K (.int k n)
 | .bool,K=>∃b:Bool,K (.bool b)
 | .slice,K=>∃(a:PY) (l c:Nat),K (.slice a l c)
 | .ptr,K=>∃a:PY,K (.pointer a)
 | .float k,K=>∃n:Nat,K (.float k n)
 | .str,K=>∃s:P0,K (.string s)
 | .func,K=>∃(f:Fn) (x y:Array Value),K (.func f x y)
 | .ifc,K=>K .nilIface\/∃(t:Nat) (v:Value),K (.iface t v)
 | .map,K=>∃r:Option Nat,K (.map r)
def Sh.all :Sh->(Value->Prop)->Prop
 | .int k,K=>∀n:Int,K (.int k n)
 | .bool,K=>∀b:Bool,K (.bool b)
 | .slice,K=>∀(a:PY) (l c:Nat),K (.slice a l c)
 | .ptr,K=>∀a:PY,K (.pointer a)
 | .float k,K=>∀n:Nat,K (.float k n)
 | .str,K=>∀s:P0,K (.string s)
 | .func,K=>∀(f:Fn) (x y:Array Value),K (.func f x y)
 | .ifc,K=>K .nilIface/\∀(t:Nat) (v:Value),K (.iface t v)
 | .map,K=>∀r:Option Nat,K (.map r)
theorem Sh.ex_elim {s:Sh} {K:Value->Prop} (h:s.ex K):∃v,v.oneCell'=true/\K v:=by
 cases s<;>simp only[Sh.ex]at h
 case slice=>obtain⟨a,l,c,h⟩:=h;exact⟨_,rfl,h⟩
 case func=>obtain⟨a,l,c,h⟩:=h;exact⟨_,rfl,h⟩
 case ifc=>
  rcases h with h | ⟨t,v,h⟩
  ·exact⟨_,rfl,h⟩
  ·exact⟨_,rfl,h⟩
 all_goals (obtain⟨n,h⟩:=h;exact⟨_,rfl,h⟩)
def exL :List Sh->(List Value->Prop)->Prop
 | [],K=>K []
 | s::r,K=>s.ex fun v=>exL r fun vs=>K (v::vs)
theorem qE :∀{l:List Sh} {K:List Value->Prop},exL l K->∃vs:List Value,vs.length=l.length/\(∀v∈vs,v.oneCell'=true)/\K vs
 | [],_,h=>⟨[],rfl,PC,h⟩
 | s::r,K,h=>by
  obtain⟨v,h1,h2⟩:=Sh.ex_elim h
  obtain⟨vs,e1,e2,e3⟩:=qE h2
  exact⟨v::vs,by simp[e1],by simpa using⟨h1,e2⟩,e3⟩
inductive Kids where
 | none | slice (e:Nat) | array (n e:Nat) | struct (fs:List (Nat × Nat)) | tuple (ts:List Nat) | int (k:IntKind) | float (k:FloatKind) | map (k e:Nat)
structure TI where
 shs:List Sh
 agg:Bool
 bytes:Nat
 zero:List Value
 kids:Kids
 tag:Nat
abbrev TAB :=List (Nat × TI)
def tl (T:TAB) (t:Nat):Option TI:=
 match T with
 | []=>none
 | (k,v)::r=>match Nat.beq k t with
  | true=>some v
  | false=>tl r t
def gQ :Value->Sh
 | .int k _=>.int k
 | .bool _=>.bool
 | .slice .. =>.slice
 | .pointer _=>.ptr
 | .float k _=>.float k
 | .string _=>.str
 | .nilIface | .iface _ _=>.ifc
 | .map _=>.map
 | _=>.func
def cM :TypeDesc->Kids
 | .slice e=>.slice e
 | .array n e=>.array n e
 | .struct fs=>.struct (fs.toList.map fun f=>(f.offset,f.type))
 | .tuple ts=>.tuple ts.toList
 | .int k=>.int k
 | .float k=>.float k
 | .map k e=>.map k e
 | _=>.none
def qF :TypeDesc->Bool
 | .struct _ | .array _ _=>true
 | _=>false
def kC :TypeDesc->Nat
 | .bool=>1 | .slice _=>2 | .pointer _=>3 | .func _ _ _=>4 | .string=>5 | .int _=>6 | .float _=>7 | .interface _=>8 | _=>0
def ym (P:Program) (t:Nat) (d:TypeDesc):Nat:=
 match d with
 | .struct fs=>(match fs.toList with
  | [f0,f1]=>(match f0.name != "_" &&f1.name != "_" && !P.stoodInHeld t with
   | true=>9
   | false=>0)
  | _=>0)
 | d=>kC d
def KX :Value->Bool
 | .agg _=>true
 | _=>false
def HY (P:Program) (t:Nat):Option TI:=
 match P.underlying t,P.info? t with
 | some d,some i=>match i.zero with
  | some z=>match Nat.beq i.size z.cells.size&&(qF d|| !KX z)with
   | true=>some {shs:=z.cells.toList.map gQ,agg:=qF d,bytes:=i.bytes,zero:=z.cells.toList,kids:=cM d,tag:=ym P t d}
   | false=>none
  | none=>none
 | _,_=>none
structure TyOK (P:Program) (t:Nat) (ti:TI):Prop where
 ex:∃d i z,P.underlying t=some d/\P.info? t=some i/\i.size=ti.shs.length/\i.bytes=ti.bytes/\i.zero=some z/\z.cells.toList=ti.zero/\
  qF d=ti.agg/\cM d=ti.kids/\ym P t d=ti.tag
 zl:ti.zero.length=ti.shs.length
 na:∀i z,P.info? t=some i->i.zero=some z->ti.agg=false->∀cs,z≠ .agg cs
theorem TyOK.of {P:Program} {t:Nat} {ti:TI} (h:HY P t=some ti):TyOK P t ti:=by
 unfold HY at h
 cases hd:P.underlying t with
 | none=>simp[hd]at h
 | some d=>
  cases hi:P.info? t with
  | none=>grind
  | some i=>
   cases hz:i.zero with
   | none=>grind
   | some z=>
    cases hb:(Nat.beq i.size z.cells.size&&(qF d|| !KX z))with
    | false=>grind
    | true=>
     simp only[hd,hi,hz,hb,Option.some.injEq]at h
     subst h
     simp only[P6]at hb
     refine⟨⟨d,i,z,hd,hi,by simp_all,rfl,hz,rfl,rfl,rfl,rfl⟩,PC,?_⟩
     grind [KX]
def bq (P:Program):TAB->Prop
 | []=>True
 | (t,ti)::r=>HY P t=some ti/\bq P r
def KY (P:Program):TAB->List (Option TI)
 | []=>[]
 | (t,_)::r=>HY P t::KY P r
def KZ :TAB->List (Option TI)
 | []=>[]
 | (_,ti)::r=>some ti::KZ r
theorem bq.of {P:Program}:∀{T:TAB},KY P T=KZ T->bq P T
 | [],_=>trivial
 | (t,ti)::r,h=>by
  simp only[KY,KZ,List.cons.injEq]at h
  exact⟨h.1,bq.of h.2⟩
theorem bq.tl {P:Program}:∀{T:TAB},bq P T->∀{t:Nat} {ti:TI},tl T t=some ti->TyOK P t ti
 | [],_,_,_,h=>by simp[X.tl]at h
 | (k,v)::r,hT,t,ti,h=>by
  simp only[X.tl]at h
  cases hk:Nat.beq k t with
  | true=>
   simp only[hk,Option.some.injEq]at h
   have:=P4 hk
   subst this;subst h
   exact TyOK.of hT.1
  | false=>simp only[hk]at h;exact bq.tl hT.2 h
def yn (o n:Nat):Nat:=
 match n with
 | 0=>o
 | n+1=>o+(n+1)
@[simp] theorem OA (o n : Nat) : yn o n = o + n := by cases n <;> rfl
def mj (h:ab) (b:Nat):Nat->List Sh->(List Value->Prop)->Prop
 | _,[],K=>K []
 | o,s::r,K=>s.ex fun v=>ac h b o=some v/\mj h b (o+1) r fun vs=>K (v::vs)
def qG (ti:TI) (h:ab) (b o:Nat) (K:AVal->Prop):Prop:=
 match ti.agg with
 | true=>mj h b o ti.shs fun vs=>K (.val (.agg vs.toArray))
 | false=>match ti.shs with
  | [s]=>s.ex fun v=>ac h b o=some v/\K (.val v)
  | _=>False
theorem mq {h:ab} {b:Nat}:∀{l:List Sh} {o:Nat} {K:List Value->Prop},mj h b o l K->
  ∃vs:List Value,vs.length=l.length/\(∀j v,vs[j]? =some v->ac h b (o+j)=some v)/\K vs
 | [],_,_,hk=>⟨[],rfl,PC,hk⟩
 | s::r,o,K,hk=>by
  obtain⟨v,_,hc,h2⟩:=Sh.ex_elim hk
  obtain⟨vs,e1,e2,e3⟩:=mq h2
  refine⟨v::vs,by simp[e1],fun j u hu=>?_,e3⟩
  cases j with
  | zero=>simp at hu;subst hu;exact hc
  | succ j=>simp at hu;have:=e2 j u hu;rwa[show o+(j+1)=o+1+j by omega]
theorem run_sizeOf {P:Program} {t:Nat} {ti:TI} (hT:TyOK P t ti) (w:World):(sizeOf t).run P w= .ok ti.shs.length w:=by
 obtain⟨d,i,z,h1,h2,h3,h4,h5,h6,h7,h8,h9⟩:=hT.ex
 simp[sizeOf,typeInfo,h2,h3]
theorem iR {P:Program} {t:Nat} {ti:TI} (hT:TyOK P t ti) (w:World):(isAgg t).run P w= .ok ti.agg w:=by
 obtain⟨d,i,z,h1,h2,h3,h4,h5,h6,h7,h8,h9⟩:=hT.ex
 rw[<-h7]
 cases d<;>simp[isAgg,run_underlying h1,qF]
theorem ix {P:Program} {t:Nat} {ti:TI} (hT:TyOK P t ti) (w:World):∃z,(zeroValue t).run P w= .ok z w/\z.cells=ti.zero.toArray:=by
 obtain⟨d,i,z,h1,h2,h3,h4,h5,h6,h7,h8,h9⟩:=hT.ex
 exact⟨z,by simp[zeroValue,typeInfo,h2,h5],by rw[<-h6]⟩
theorem dM (b o n:Nat):(⟨b,o,none⟩:Addr).add n=⟨b,o+n,none⟩:=Addr.add_lit b o n
theorem oc {P:Program} (w:World) (b o:Nat) (vs:List Value) (h:∀j v,vs[j]? =some v->ac w.heap b (o+j)=some v):
  (loadCells ⟨b,o,none⟩ vs.length).run P w= .ok vs.toArray w:=
 run_loadCells_list w ⟨b,o,none⟩ vs fun j v hv=>by grind [dM,bz]
theorem jg {P:Program} {t:Nat} {ti:TI} (hT:TyOK P t ti) (hagg:ti.agg=true) (w:World) (b o:Nat) (vs:List Value) (hl:vs.length=ti.shs.length)
  (h:∀j v,vs[j]? =some v->ac w.heap b (o+j)=some v):(loadVar t ⟨b,o,none⟩).run P w= .ok (.agg vs.toArray) w:=by
 have h1:=oc (P:=P) w b o vs h
 rw[hl]at h1
 simp[loadVar,iR hT,hagg,run_sizeOf hT,h1]
theorem jh {P:Program} {t:Nat} {ti:TI} (hT:TyOK P t ti) (hagg:ti.agg=false) (w:World) (b o:Nat) (v:Value)
  (h:ac w.heap b o=some v):(loadVar t ⟨b,o,none⟩).run P w= .ok v w:=by
 have h1:w.cell? ⟨b,o,none⟩=some v:=by rw[bz];exact h
 simp[loadVar,iR hT,hagg,h1]
def seg (l:List Value) (o n:Nat):Option (List Value):=
 match n with
 | 0=>some []
 | n+1=>match l[o]? with
  | some v=>match seg l (o+1) n with
   | some r=>some (v::r)
   | none=>none
  | none=>none
theorem wE :∀{n:Nat} {l:List Value} {o:Nat} {r:List Value},seg l o n=some r->r.length=n/\∀j v,r[j]? =some v->l[o+j]? =some v
 | 0,l,o,r,h=>by simp[seg]at h;subst h;simp
 | n+1,l,o,r,h=>by
  unfold seg at h
  cases h1:l[o]? with
  | none=>simp[h1]at h
  | some v=>
   cases h2:seg l (o+1) n with
   | none=>simp[h1,h2]at h
   | some q=>
    simp[h1,h2]at h
    subst h
    obtain⟨e1,e2⟩:=wE h2
    refine⟨by simp[e1],fun j u hu=>?_⟩
    cases j with
    | zero=>simp at hu;subst hu;exact h1
    | succ j=>simp at hu;have:=e2 j u hu;rwa[show o+(j+1)=o+1+j by omega]
def kV (ti:TI) (cells:List Value) (o:Nat) (K:AVal->Prop):Prop:=
 match ti.agg with
 | true=>match seg cells o ti.shs.length with
  | some vs=>K (.val (.agg vs.toArray))
  | none=>False
 | false=>match cells[o]? with
  | some v=>K (.val v)
  | none=>False
def iop (op:BinOp) (k:IntKind) (x y:Int) (K:AVal->Prop):Prop:=
 match op with
 | .add=>K (.val (.int k (k.wrap (x+y))))
 | .sub=>K (.val (.int k (k.wrap (x-y))))
 | .mul=>K (.val (.int k (k.wrap (x*y))))
 | .quo=>y≠0/\K (.val (.int k (k.wrap (x.tdiv y))))
 | .rem=>y≠0/\K (.val (.int k (x.tmod y)))
 | .eql=>K (.val (.bool (x==y)))
 | .neq=>K (.val (.bool (x != y)))
 | .lss=>K (.val (.bool (decide (x<y))))
 | .leq=>K (.val (.bool (decide (x<=y))))
 | .gtr=>K (.val (.bool (decide (x>y))))
 | .geq=>K (.val (.bool (decide (x>=y))))
 | .and=>K (.val (.int k (bits .and k x y)))
 | .or=>K (.val (.int k (bits .or k x y)))
 | .xor=>K (.val (.int k (bits .xor k x y)))
 | .andNot=>K (.val (.int k (bits .andNot k x y)))
 | .shl=>0<=y/\K (.val (.int k (k.wrap (x*2^(min y.toNat k.bits)))))
 | .shr=>0<=y/\K (.val (.int k (x.fdiv (2^(min y.toNat k.bits)))))
def kW (a b:IntKind) (K:Prop):Prop:=
 match a,b with
 | .i64,.i64 | .u64,.u64 | .u8,.u8 | .i8,.i8 | .i16,.i16 | .u16,.u16 | .i32,.i32 | .u32,.u32=>K
 | _,_=>False
theorem nN {a b:IntKind} {K:Prop} (h:kW a b K):a=b/\K:=by
 cases a<;>cases b<;>simp[kW]at h<;>exact⟨rfl,h⟩
def AR (op:BinOp) (k k':IntKind) (a b:Int) (K:AVal->Prop):Prop:=
 match op with
 | .shl=>iop .shl k a b K
 | .shr=>iop .shr k a b K
 | op=>kW k k' (iop op k a b K)
def AU (op:BinOp) (k:FloatKind) (x y:Nat) (K:AVal->Prop):Prop:=
 match op with
 | .eql=>K (.val (.bool (k.format.order x y==some .eq)))
 | .neq=>K (.val (.bool (k.format.order x y != some .eq)))
 | .lss=>K (.val (.bool (k.format.order x y==some .lt)))
 | .leq=>K (.val (.bool (k.format.order x y==some .lt||k.format.order x y==some .eq)))
 | .gtr=>K (.val (.bool (k.format.order x y==some .gt)))
 | .geq=>K (.val (.bool (k.format.order x y==some .gt||k.format.order x y==some .eq)))
 | _=>False
def im (a b:FloatKind) (K:Prop):Prop:=
 match a,b with
 | .f64,.f64 | .f32,.f32=>K
 | _,_=>False
theorem je {a b:FloatKind} {K:Prop} (h:im a b K):a=b/\K:=by
 cases a<;>cases b<;>simp[im]at h<;>exact⟨rfl,h⟩
def dG (op:BinOp) (r:Bool) (K:AVal->Prop):Prop:=
 match op with
 | .eql=>K (.val (.bool r))
 | .neq=>K (.val (.bool (!r)))
 | _=>False
def EP (op:BinOp) (a b:P0) (K:AVal->Prop):Prop:=
 match op with
 | .eql=>K (.val (.bool (a.toList==b.toList)))
 | .neq=>K (.val (.bool (!(a.toList==b.toList))))
 | .add=>((a.size+b.size:Nat):Int)<=9223372036854775807/\K (.val (.string (a++b)))
 | _=>False
def bop (op:BinOp) (x y:AVal) (K:AVal->Prop):Prop:=
 match x,y with
 | .val (.int k a),.val (.int k' b)=>AR op k k' a b K
 | .val (.float k a),.val (.float k' b)=>im k k' (AU op k a b K)
 | .val (.bool a),.val (.bool b)=>dG op (a==b) K
 | .val (.bool a),.lit b=>dG op (a==b) K
 | .lit a,.val (.bool b)=>dG op (a==b) K
 | .lit a,.lit b=>dG op (a==b) K
 | .val (.string a),.val (.string b)=>EP op a b K
 | .val (.slice a _ _),.val (.slice none _ _)=>dG op a.isNone K
 | .sl _ _ _ _,.val (.slice none _ _)=>dG op false K
 | .val (.pointer a),.val (.pointer none)=>dG op a.isNone K
 | .ptr _ _,.val (.pointer none)=>dG op false K
 | .loc _ _,.val (.pointer none)=>dG op false K
 | .val (.func _ _ _),.val .nilFunc=>dG op false K
 | .val .nilFunc,.val .nilFunc=>dG op true K
 | _,_=>False
def uv (ei:TI) (a b:List Value):Option Bool:=
 match ei.kids with
 | .int .i64=>(match a,b with
  | [.int .i64 x0,.int .i64 x1],[.int .i64 y0,.int .i64 y1]=>some ((x0==y0)&&(x1==y1))
  | _,_=>none)
 | .float .f64=>(match a,b with
  | [.float .f64 x0,.float .f64 x1],[.float .f64 y0,.float .f64 y1]=>some ((FloatKind.f64.format.order x0 y0==some .eq)&&(FloatKind.f64.format.order x1 y1==some .eq))
  | _,_=>none)
 | _=>none
def EQ (T:TAB) (ti:TI) (op:BinOp) (x y:AVal) (K:AVal->Prop):Prop:=
 match x with
 | .val (.agg a)=>(match y with
  | .val (.agg b)=>(match ti.kids with
   | .array n e=>(match Nat.beq n 2 with
    | true=>(match tl T e with
     | some ei=>(match Nat.beq ei.shs.length 1&& !ei.agg with
      | true=>(match uv ei a.toList b.toList with
       | some r=>dG op r K
       | none=>False)
      | false=>False)
     | none=>False)
    | false=>False)
   | .struct [(o0,e0),(o1,e1)]=>(match Nat.beq ti.tag 9&&Nat.beq o0 0&&Nat.beq o1 1&&Nat.beq e0 e1 with
    | true=>(match tl T e0 with
     | some ei=>(match Nat.beq ei.shs.length 1&& !ei.agg with
      | true=>(match uv ei a.toList b.toList with
       | some r=>dG op r K
       | none=>False)
      | false=>False)
     | none=>False)
    | false=>False)
   | _=>False)
  | _=>False)
 | _=>bop op x y K
def ER (T:TAB) (ti:TI) (y':Operand) (op:BinOp) (x y:AVal) (K:AVal->Prop):Prop:=
 match x with
 | .val .nilIface=>(match y with
  | .val .nilIface=>(match y' with
   | .const _=>dG op true K
   | _=>False)
  | _=>False)
 | .val (.iface _ _)=>(match y with
  | .val .nilIface=>dG op false K
  | _=>False)
 | _=>EQ T ti op x y K
def mu (op:BinOp) (tag:Nat) (x:AVal):Bool:=
 match op with
 | .eql | .neq=>(match x with
  | .val (.bool _) | .lit _=>Nat.beq tag 1
  | .val (.slice _ _ _) | .sl _ _ _ _=>Nat.beq tag 2
  | .val (.pointer _) | .ptr _ _ | .loc _ _=>Nat.beq tag 3
  | .val (.func _ _ _) | .val .nilFunc=>Nat.beq tag 4
  | .val .nilIface | .val (.iface _ _)=>Nat.beq tag 8
  | _=>true)
 | _=>true
def deref (x:AVal) (K:Nat->Nat->Prop) (L:Nat->Nat->Prop):Prop:=
 match x with
 | .ptr b o=>K b o
 | .loc s o=>L s o
 | .val (.pointer pa)=>∃b o,pa=some ⟨b,o,none⟩/\K b o
 | _=>False
def inb (x:Operand) (n:Int) (len:Nat) (K:Prop):Prop:=
 match x with
 | .const _=>(match decide (0<=n/\n<(len:Int))with
  | true=>K
  | false=>False)
 | _=>0<=n/\n<(len:Int)/\K
theorem qH {x:Operand} {n:Int} {len:Nat} {K:Prop} (h:inb x n len K):(0<=n/\n<(len:Int))/\K:=by
 cases x with
 | const v=>
  simp only[inb]at h
  grind
 | _=>exact⟨⟨h.1,h.2.1⟩,h.2.2⟩
def rj (st:St):List Operand->Option (List Value)
 | []=>some []
 | x::r=>match evo st x with
  | some v=>match rj st r with
   | some vs=>some (v::vs)
   | none=>none
  | none=>none
theorem sO {st:St} {a:Act} (r:yl st a):∀{l:List Operand} {vs:List Value},rj st l=some vs->l.map a.eval=vs
 | [],vs,h=>by simp[rj]at h;subst h;rfl
 | x::l,vs,h=>by
  unfold rj at h
  cases h1:evo st x with
  | none=>simp[h1]at h
  | some v=>
   cases h2:rj st l with
   | none=>simp[h1,h2]at h
   | some us=>
    simp[h1,h2]at h
    subst h
    simp[bu r h1,sO r h2]
def qI (x:AVal) (K:Nat->Prop):Prop:=
 match x with
 | .val (.slice _ l _)=>K l
 | .sl _ _ l _=>K l
 | .row _ n=>K n
 | _=>False
def qJ (x:AVal) (K:Nat->Prop):Prop:=
 match x with
 | .val (.slice _ _ c)=>K c
 | .sl _ _ _ c=>K c
 | .row _ n=>K n
 | _=>False
def eJ (x:Option Operand) (st:St) (dflt y:Nat) (K:Nat->Prop):Prop:=
 match x with
 | none=>K dflt
 | some x=>match ev st x with
  | some (.val (.int _ n))=>0<=n/\n<=(y:Int)/\K n.toNat
  | _=>False
def asSlice (x:AVal) (K:PY->Nat->Nat->Prop):Prop:=
 match x with
 | .val (.slice a l c)=>K a l c
 | .sl b o l c=>K (some ⟨b,o,none⟩) l c
 | _=>False
def kr (l:List Value) (o:Nat):List Value->List Value
 | []=>l
 | v::r=>kr (l.set o v) (o+1) r
def nQ (place:Nat->Option (Nat × Nat)) (l:List Value):List (Nat × Value)->Option (List Value)
 | []=>some l
 | (i,v)::r=>match place i with
  | none=>none
  | some (off,size)=>match Nat.beq v.cells.toList.length size&&Nat.ble (off+size) l.length with
   | true=>nQ place (kr l off v.cells.toList) r
   | false=>none
def mw (T:TAB):List (Nat × Nat)->Option (List (Nat × Nat))
 | []=>some []
 | (off,ft)::r=>match tl T ft with
  | some fi=>(match mw T r with
   | some q=>some ((off,fi.shs.length)::q)
   | none=>none)
  | none=>none
def yo (st:St):List (Nat × Operand)->Option (List (Nat × Value))
 | []=>some []
 | (i,x)::r=>match evo st x with
  | some v=>(match yo st r with
   | some vs=>some ((i,v)::vs)
   | none=>none)
  | none=>none
theorem nj {st:St} {a:Act} (r:yl st a):∀{l:List (Nat × Operand)} {vs:List (Nat × Value)},yo st l=some vs->(l.map fun(i,x)=>(i,a.eval x))=vs
 | [],vs,h=>by simp[yo]at h;subst h;rfl
 | (i,x)::l,vs,h=>by
  unfold yo at h
  cases h1:evo st x with
  | none=>simp[h1]at h
  | some v=>
   cases h2:yo st l with
   | none=>simp[h1,h2]at h
   | some us=>
    simp[h1,h2]at h
    subst h
    have:=nj r h2
    simp[bu r h1,<-this]
theorem gh (off:Nat):∀(l:List Value) (k:Nat) (cs:Array Value),(l.zipIdx k).foldl (fun cs (c:Value × Nat)=>cs.setIfInBounds (off+c.2) c.1) cs=(kr cs.toList (off+k) l).toArray
 | [],k,cs=>by simp[kr]
 | v::l,k,cs=>by
  simp only[List.zipIdx_cons,List.foldl_cons,kr]
  rw[gh off l (k+1)]
  simp[Nat.add_assoc]
theorem oB {place:Nat->Option (Nat × Nat)}:∀{parts:List (Nat × Value)} {l l':List Value},nQ place l parts=some l'->Instr.fill place l.toArray parts=some l'.toArray
 | [],l,l',h=>by simp[nQ]at h;simp[Instr.fill,h]
 | (i,v)::r,l,l',h=>by
  unfold nQ at h
  unfold Instr.fill
  cases hp:place i with
  | none=>simp[hp]at h
  | some p=>
   obtain⟨off,size⟩:=p
   simp only[hp]at h ⊢
   cases hb:(Nat.beq v.cells.toList.length size&&Nat.ble (off+size) l.length)with
   | false=>grind
   | true=>
    rw[hb]at h
    simp only at h
    simp only[P6]at hb
    have e1:=P4 hb.1
    have e2:=Qr hb.2
    have e1':v.cells.size=size:=by simpa using e1
    have:(decide (v.cells.size≠size)||decide (off+v.cells.size>l.toArray.size))=false:=by grind
    rw[if_neg (by rw[this];simp)]
    have hz:(v.cells.zipIdx.foldl (fun cs (x:Value × Nat)=>match x with | (c,j)=>cs.setIfInBounds (off+j) c) l.toArray)=(kr l off v.cells.toList).toArray:=by
     rw[<-Array.foldl_toList,Array.toList_zipIdx]
     exact gh off v.cells.toList 0 l.toArray
    rw[hz]
    exact oB h
def AV (zero:List Value) (n:Nat):List Value:=(List.range n).map fun i=>zero.getD (i % zero.length) undef
def nob (mo:Option (List Nat)) (b:Nat) (K:Prop):Prop:=
 match mo with
 | none=>K
 | some M=>b∉M/\K
theorem ES {mo:Option (List Nat)} {b:Nat} {K:Prop} (h:nob mo b K):b∉mo.getD []/\K:=by
 cases mo with
 | none=>exact⟨PC,h⟩
 | some M=>exact h
def fmm (k:FloatKind) (mx:Bool) (x y:Nat):Option Nat:=
 match k.format.order x y with
 | none=>none
 | some .lt=>some (if mx then y else x)
 | some .gt=>some (if mx then x else y)
 | some .eq=>some (if(k.decode x).neg then(if mx then y else x)else(if mx then x else y))
def det (T:TAB) (L:List Priv) (mo:Option (List Nat)) (st:St) (h:ab) (op:Op) (K:AVal->Prop):Prop:=
 match op with
 | .move x | .assign x=>match ev st x with
  | some v=>K v
  | none=>False
 | .pick c a b=>match ev st c with
  | some (.lit true)=>(match ev st a with
   | some v=>K v
   | none=>False)
  | some (.lit false)=>(match ev st b with
   | some v=>K v
   | none=>False)
  | _=>False
 | .load t x=>match tl T t with
  | some ti=>match ev st x with
   | some x=>deref x (fun b o=>nob mo b (qG ti h b o K)) (fun s o=>match ar L s with
    | some p=>kV ti p.cells o K
    | none=>False)
   | none=>False
  | none=>False
 | .nilCheck x=>match ev st x with
  | some x=>deref x (fun b o=>K (.ptr b o)) (fun s o=>K (.loc s o))
  | none=>False
 | .fieldAddr t x f=>match tl T t with
  | some ⟨_,_,_,_,.struct fs,_⟩=>(match fs[f]? with
   | some (off,ft)=>(match tl T ft with
    | some fi=>(match fi.shs with
     | []=>False
     | _::_=>(match ev st x with
      | some x=>deref x (fun b o=>K (.ptr b (yn o off))) (fun s o=>K (.loc s (yn o off)))
      | none=>False))
    | none=>False)
   | none=>False)
  | _=>False
 | .indexAddr t x i=>match tl T t with
  | some ti=>(match ti.kids with
   | .slice e=>(match tl T e with
    | some ei=>(match ev st i with
     | some (.val (.int _ n))=>(match ev st x with
      | some (.row s len)=>inb i n len (K (.loc s (n.toNat*ei.shs.length)))
      | some x=>asSlice x fun a l _=>∃b o,a=some ⟨b,o,none⟩/\0<=n/\n<(l:Int)/\K (.ptr b (o+n.toNat*ei.shs.length))
      | none=>False)
     | _=>False)
    | none=>False)
   | .array len e=>(match tl T e with
    | some ei=>(match ev st i with
     | some (.val (.int _ n))=>(match ev st x with
      | some x=>deref x (fun b o=>inb i n len (K (.ptr b (o+n.toNat*ei.shs.length)))) (fun s o=>inb i n len (K (.loc s (o+n.toNat*ei.shs.length))))
      | none=>False)
     | _=>False)
    | none=>False)
   | _=>False)
  | none=>False
 | .binOp op t x y _=>match tl T t with
  | some ti=>(match ev st x with
   | some vx=>(match ev st y with
    | some vy=>(match mu op ti.tag vx with
     | true=>ER T ti y op vx vy K
     | false=>False)
    | none=>False)
   | none=>False)
  | none=>False
 | .unOp op _ x=>match ev st x with
  | some (.lit b)=>(match op with
   | .not=>K (.lit (!b))
   | _=>False)
  | some (.val (.bool b))=>(match op with
   | .not=>K (.val (.bool (!b)))
   | _=>False)
  | some (.val (.int k n))=>(match op with
   | .neg=>K (.val (.int k (k.wrap (0-n))))
   | _=>False)
  | some (.val (.float k n))=>(match op with
   | .neg=>K (.val (.float k (Op.negFloat k n)))
   | _=>False)
  | _=>False
 | .convert src dst x=>match tl T src with
  | some _=>(match tl T dst with
   | some ti=>(match ti.kids with
    | .int k=>(match ev st x with
     | some (.val (.int _ n))=>K (.val (.int k (k.wrap n)))
     | _=>False)
    | .float k=>(match ev st x with
     | some (.val (.int _ n))=>K (.val (.float k (k.nearest n)))
     | _=>False)
    | _=>False)
   | none=>False)
  | none=>False
 | .extract x i=>match ev st x with
  | some (.val (.tuple vs))=>(match vs[i]? with
   | some v=>K (.val v)
   | none=>False)
  | _=>False
 | .build t parts=>match tl T t with
  | some ti=>(match yo st parts.toList with
   | some ps=>(match ti.kids with
    | .struct fs=>(match mw T fs with
     | some pl=>(match nQ (pl[·]?) ti.zero ps with
      | some cells=>K (.val (.agg cells.toArray))
      | none=>False)
     | none=>False)
    | .array _ e=>(match tl T e with
     | some ei=>(match nQ (fun i=>some (i*ei.shs.length,ei.shs.length)) ti.zero ps with
      | some cells=>K (.val (.agg cells.toArray))
      | none=>False)
     | none=>False)
    | _=>False)
   | none=>False)
  | none=>False
 | .makeInterface t x=>match tl T t with
  | some ti=>(match Nat.beq ti.tag 8 with
   | true=>False
   | false=>(match evo st x with
    | some v=>K (.val (.iface t v))
    | none=>False))
  | none=>False
 | .makeFunc fn first captured=>match rj st first.toList with
  | some f=>(match rj st captured.toList with
   | some c=>K (.val (.func fn f.toArray c.toArray))
   | none=>False)
  | none=>False
 | .field t x f=>match tl T t with
  | some ⟨_,_,_,_,.struct fs,_⟩=>(match fs[f]? with
   | some (off,ft)=>(match tl T ft with
    | some fi=>(match ev st x with
     | some (.val (.agg cs))=>(match fi.agg with
      | true=>K (.val (.agg (cs.extract off (off+fi.shs.length))))
      | false=>(match cs[off]? with
       | some v=>K (.val v)
       | none=>False))
     | _=>False)
    | none=>False)
   | none=>False)
  | _=>False
 | .index t x i=>match tl T t with
  | some ti=>(match ti.kids with
   | .array len e=>(match tl T e with
    | some ⟨[s],false,_,_,_,_⟩=>(match ev st i with
     | some (.val (.int _ n))=>(match ev st x with
      | some (.val (.agg cs))=>0<=n/\n<(len:Int)/\s.ex fun v=>cs[n.toNat]? =some v/\K (.val v)
      | _=>False)
     | _=>False)
    | _=>False)
   | .none=>(match Nat.beq ti.tag 5 with
    | true=>(match ev st i with
     | some (.val (.int _ n))=>(match ev st x with
      | some (.val (.string s))=>0<=n/\n<(s.size:Int)/\∃c:UInt8,s[n.toNat]? =some c/\K (.val (.int .u8 ((c.toNat:Nat):Int)))
      | _=>False)
     | _=>False)
    | false=>False)
   | _=>False)
  | none=>False
 | .slice t x lo hi none=>match tl T t with
  | some ti=>(match ti.kids with
   | .slice e=>(match tl T e with
    | some ei=>(match ev st x with
     | some x=>asSlice x fun a l c=>eJ hi st l c fun h'=>eJ lo st 0 h' fun l'=>
       K (.val (.slice (if c=l' then a else a.map (·.add (l'*ei.shs.length))) (h'-l') (c-l')))
     | none=>False)
    | none=>False)
   | .none=>(match Nat.beq ti.tag 5 with
    | true=>(match ev st x with
     | some (.val (.string s))=>eJ hi st s.size s.size fun h'=>eJ lo st 0 h' fun l'=>K (.val (.string (s.extract l' h')))
     | _=>False)
    | false=>False)
   | .array n e=>(match tl T e with
    | some ei=>(match ev st x with
     | some x=>deref x (fun b o=>eJ hi st n n fun h'=>eJ lo st 0 h' fun l'=>
       K (.val (.slice (some (if n=l' then⟨b,o,none⟩else(⟨b,o,none⟩:Addr).add (l'*ei.shs.length))) (h'-l') (n-l')))) (fun _ _=>False)
     | none=>False)
    | none=>False)
   | _=>False)
  | none=>False
 | .slice t x lo (some hi) (some mx)=>match tl T t with
  | some ti=>(match ti.kids with
   | .slice e=>(match tl T e with
    | some ei=>(match ev st x with
     | some x=>asSlice x fun a l c=>eJ (some mx) st l c fun m'=>eJ (some hi) st l m' fun h'=>eJ lo st 0 h' fun l'=>
       K (.val (.slice (if m'=l' then a else a.map (·.add (l'*ei.shs.length))) (h'-l') (m'-l')))
     | none=>False)
    | none=>False)
   | _=>False)
  | none=>False
 | .call c=>match c.callee with
  | .builtin .len=>(match c.args.toList with
   | [x]=>(match c.argTypes.toList with
    | [t]=>(match tl T t with
     | some ti=>(match ti.kids with
      | .slice _=>(match ev st x with
       | some x=>qI x fun n=>K (.val (.int .i64 (n:Int)))
       | none=>False)
      | .none=>(match Nat.beq ti.tag 5 with
       | true=>(match ev st x with
        | some (.val (.string s))=>K (.val (.int .i64 (s.size:Int)))
        | _=>False)
       | false=>False)
      | _=>False)
     | none=>False)
    | _=>False)
   | _=>False)
  | .builtin .cap=>(match c.args.toList with
   | [x]=>(match c.argTypes.toList with
    | [t]=>(match tl T t with
     | some ti=>(match ti.kids with
      | .slice _=>(match ev st x with
       | some x=>qJ x fun n=>K (.val (.int .i64 (n:Int)))
       | none=>False)
      | _=>False)
     | none=>False)
    | _=>False)
   | _=>False)
  | .builtin .min=>(match c.args.toList with
   | [x,y]=>(match ev st x with
    | some (.val (.int k a))=>(match ev st y with
     | some (.val (.int _ b))=>K (.val (.int k (if b<a then b else a)))
     | _=>False)
    | some (.val (.float k a))=>(match ev st y with
     | some (.val (.float _ b))=>∃r:Nat,fmm k false a b=some r/\K (.val (.float k r))
     | _=>False)
    | _=>False)
   | _=>False)
  | .builtin .max=>(match c.args.toList with
   | [x,y]=>(match ev st x with
    | some (.val (.int k a))=>(match ev st y with
     | some (.val (.int _ b))=>K (.val (.int k (if b>a then b else a)))
     | _=>False)
    | some (.val (.float k a))=>(match ev st y with
     | some (.val (.float _ b))=>∃r:Nat,fmm k true a b=some r/\K (.val (.float k r))
     | _=>False)
    | _=>False)
   | _=>False)
  | _=>False
 | _=>False
end Go.X
