/- What the card lists of the package's tables, as facts of the heap; and a world in which they lie so. Conditions: none. -/
import Derived.Test.YtemclecmafjjfaaGreatDoorRows
import Derived.Test.YtemclecmafjjfaaGreatDoorSBk
import Derived.WalkKit
import Derived.ProofKit
import Derived.OpenShut
import Derived.Lib.LaidU8
import Derived.MakeChecks
import Derived.Lay
import Derived.Shelf.Vars
import Derived.Handed
import Derived.Test.YtemclecmafjjfaaGreatDoorXU
import Derived.Below
import Derived.Deep.Slices
import Derived.ChangeOld
import Derived.Carry
import Derived.JoinedCond
import Derived.Deep.DeepHandedRow
import Derived.Test.YtemclecmafjjfaaGreatDoorCards
import Derived.SevenTiedAt
import Derived.Test.YtemclecmafjjfaaGreatDoorWPre
import Derived.ChangeArms
set_option linter.unusedVariables false
set_option linter.unusedSimpArgs false
namespace Go.X
open Go.ChangeShapes Go.WideShapes Go.ChangeAt Go.RowKit
theorem sH {w:World} {b o:Nat} {s:Option Nat} {v:Value} (h:w.cell? ⟨b,o,s⟩=some v):ac w.heap b o=some v:=by
 grind [Go.Proofs.cell_spot,ba]
section
variable {H:Type} {enc:TypeId × Value->H} {P:Program} {w:World} {base:Nat} {spare:Nat->Bool}
theorem oK {α:Type} (E:En α) (D:α->DataW H) {t e:TypeId} {fuel:Nat} {cs:List Value} {p:List MemPlace} {l:List α} (ht:P.underlying t=some (.slice e)) (hc:P.cellsOf e=E.sz)
  (hel:∀(n:Nat) (cs:List Value) (x:α) (p:List MemPlace),DataW.trod enc P w base spare false n e cs=some (D x,p)->cs=E.enc x)
  (hl:0<l.length) (h:DataW.trod enc P w base spare false fuel t cs=some (.slice (l.map D) [],p)):
  ∃b o c,cs=[.slice (some ⟨b,o,none⟩) l.length c]/\∀(i:Nat) (x:α),l[i]? =some x->∀(j:Nat) (v:Value),(E.enc x)[j]? =some v->ac w.heap b (o+i*E.sz+j)=some v:=by
 rcases DataW.trod_slice ht h with⟨_,hx⟩ | ⟨a,len,cap,el,rs,m,rfl,hcs,hx,_,hlc,_,hel',helem,_,_⟩
 ·cases hx
 have e0:=congrArg Prod.fst hx
 simp only[DataW.slice.injEq]at e0
 obtain⟨eE,_⟩:=e0
 have hlen:len=l.length:=by
  have:=congrArg List.length eE
  grind
 have ac:∀(i:Nat) (x:α),l[i]? =some x->∀(j:Nat) (v:Value),(E.enc x)[j]? =some v->w.cell? ((a.add (i*E.sz)).add j)=some v:=by
  intro i x hi j v hv
  have hil:i<l.length:=(List.getElem?_eq_some_iff.1 hi).1
  have h1:=helem i (by omega)
  rw[hc]at h1
  obtain⟨b,hb⟩:∃b,el[i]? =some b:=⟨el[i]'(by omega),List.getElem?_eq_getElem (by omega)⟩
  rw[hb]at h1
  obtain⟨ce,hce,hte⟩:=Option.bind_eq_some_iff.1 h1
  have hb1:b.1=D x:=by
   have:=congrArg (·[i]?) eE
   grind
  obtain⟨b1,b2⟩:=b
  simp only at hb1;subst hb1
  have:=hel _ _ _ _ hte
  subst this
  have hj:j<E.sz:=by
   have:=(List.getElem?_eq_some_iff.1 hv).1
   rwa[E.len]at this
  rw[<-hv]
  exact(World.cells?_some hce).2.2 j hj
 obtain⟨R,o,sR⟩:=a
 have hs:sR=none:=by
  obtain⟨x,hx0⟩:∃x,l[0]? =some x:=⟨l[0]'hl,List.getElem?_eq_getElem hl⟩
  have hp:0<(E.enc x).length:=by rw[E.len];exact E.pos
  have h00:=ac 0 x hx0 0 _ (List.getElem?_eq_getElem hp)
  grind [Addr.add,Go.Proofs.cell_spot]
 subst hs
 refine⟨R,o,cap,by rw[hcs,hlen],fun i x hi j v hv=>?_⟩
 grind [cq,sH]
theorem oL {α:Type} (E:En α) (D:α->DataW H) {t e:TypeId} {n fuel:Nat} {cs:List Value} {p:List MemPlace} {l:List α} (ht:P.underlying t=some (.array n e)) (hc:P.cellsOf e=E.sz)
  (hel:∀(n:Nat) (cs:List Value) (x:α) (p:List MemPlace),DataW.trod enc P w base spare false n e cs=some (D x,p)->cs=E.enc x)
  (h:DataW.trod enc P w base spare false fuel t cs=some (.agg (l.map D),p)):
  ∀(i:Nat) (x:α),l[i]? =some x->∀(j:Nat) (v:Value),(E.enc x)[j]? =some v->cs[i*E.sz+j]? =some v:=by
 intro i x hi j v hv
 obtain⟨xs,m,rfl,hx,hl,hxl,hall⟩:=DataW.trod_array ht h
 have e0:=congrArg Prod.fst hx
 simp only[DataW.agg.injEq]at e0
 have hn:n=l.length:=by
  have:=congrArg List.length e0
  grind
 have hil:i<l.length:=(List.getElem?_eq_some_iff.1 hi).1
 have h1:=hall i (by omega)
 obtain⟨b,hb⟩:∃b,xs[i]? =some b:=⟨xs[i]'(by omega),List.getElem?_eq_getElem (by omega)⟩
 rw[hb,hc]at h1
 have hb1:b.1=D x:=by
  have:=congrArg (·[i]?) e0
  grind
 grind
theorem iE {k:IntKind} {e:TypeId} (he:P.underlying e=some (.int k)) (n:Nat) (cs:List Value) (x:Int) (p:List MemPlace) (h:DataW.trod enc P w base spare false n e cs=some (.lit (.int k x),p)):cs=(eK k).enc x:=by
 obtain⟨m,rfl,hm,_⟩:=DataW.trod_int he h
 cases hm;rfl
theorem zj {k:FloatKind} {e:TypeId} (he:P.underlying e=some (.float k)) (n:Nat) (cs:List Value) (x:Nat) (p:List MemPlace) (h:DataW.trod enc P w base spare false n e cs=some (.lit (.float k x),p)):cs=[.float k x]:=by
 cases n with
 | zero=>simp[DataW.trod]at h
 | succ m=>
  unfold DataW.trod at h
  rw[he]at h
  split at h<;>simp_all
theorem FR {e:TypeId} (he:P.underlying e=some .string) (n:Nat) (cs:List Value) (x:List UInt8) (p:List MemPlace) (h:DataW.trod enc P w base spare false n e cs=some (.lit (.string x),p)):cs=[.string ⟨x.toArray⟩]:=by
 obtain⟨m,rfl,hm,_⟩:=DataW.trod_string he h
 cases hm;rfl
theorem Cs {e:TypeId} (he:P.underlying e=some .bool) (n:Nat) (cs:List Value) (x:Bool) (p:List MemPlace) (h:DataW.trod enc P w base spare false n e cs=some (.lit (.bool x),p)):cs=[.bool x]:=by
 grind [DataW.trod_bool]
theorem mj {t:TypeId} {fs:Array Field} {ds:List (DataW H)} {n:Nat} {cs:List Value} {p:List MemPlace} (ht:P.underlying t=some (.struct fs)) (h:DataW.trod enc P w base spare false n t cs=some (.agg ds,p)):
  cs.length=P.cellsOf t/\∀(i:Nat) (f:Field),fs[i]? =some f->f.offset=i->P.cellsOf f.type=1->∃m d q,ds[i]? =some d/\DataW.trod enc P w base spare false m f.type ((cs.drop i).take 1)=some (d,q):=by
 obtain⟨xs,m,rfl,hx,hl,hxl,hall⟩:=DataW.trod_struct ht h
 grind
end
theorem at_one {l:List Value} {i:Nat} {v:Value} (h:(l.drop i).take 1=[v]):l[i]? =some v:=by
 have:=congrArg (·[0]?) h
 grind
theorem Ct {l:List Value} {a b:Value} (hl:l.length=2) (h0:l[0]? =some a) (h1:l[1]? =some b):l=[a,b]:=by
 match l,hl with
 | [x,y],_=>grind
theorem iW {H:Type} {enc:TypeId × Value->H} {a:Assume} {C:Checked} {os:Os} {f:FuncId} {fn:Func} {s:ChangeSpec} {conds:List PathCond} {apart fresh handsOn again:Bool} {X:World->Array Value->Prop}
  (hX:∀(w w':World) (args:Array Value),w.heap=w'.heap->X w args->X w' args)
  (own:ownKnob C.prog.godebug=none) (started:os.Started) (noInit:C.prog.inits.idxOf? f=none) (hfn:C.prog.funcs[f]? =some fn)
  (witness:∃(w:World) (tape:Tape) (i:Input),w.os=os/\(w.forCall tape i).Shaped C.prog/\i.vars=[]/\Input.okWide C.prog (w.forCall tape i) .any w.heap.size f i/\
   ((s.pre enc C.prog fn conds apart (w.forCall tape i).memory i.args/\X (w.forCall tape i).memory i.args)/\sizedMet enc C.prog fn (OpenSpec.ofChange s) apart (w.forCall tape i).memory i.args)/\a.holds C.prog (lone (Frame.enter C.prog f i.args .normal) [] (w.forCall tape i)))
  (contract:∀(W:World) (base:Nat) (args:Array Value) (ds gs:List (DataW H)) (before:List MemPlace),
   (∀(j:Nat) t v,fn.params[j]? =some t->args[j]? =some v->Value.okWide C.prog W .any base t v)->
   DataW.Whole enc C.prog fn.params.toList s.vars apart W args.toList ds gs before->
   X W args->W.ShapedOpen C.prog->
   Calls C.prog f args W fun e W'=>∃v,e= .returned v/\s.post enc C.prog fn apart fresh handsOn again W args v W'):
  ReturnsInHanded a C os f .any (fun w args=>(s.pre enc C.prog fn conds apart w args/\X w args)/\sizedMet enc C.prog fn (OpenSpec.ofChange s) apart w args) (s.post enc C.prog fn apart fresh handsOn again):=by
 refine returnsInHanded_of_calls own started noInit witness ?_
 intro w tape i _ hsh _ hok hpre hholds
 obtain⟨_,_,_,fn',hfn',_,_,_,_,hval⟩:=hok
 have e:fn'=fn:=Option.some.inj (hfn'.symm.trans hfn)
 subst e
 obtain⟨⟨⟨ds,gs,before,hw,hc⟩,hx⟩,hz⟩:=hpre
 have hw':=DataW.Whole.of_heap (w':=w.forCall tape i) (by rfl) hw
 refine(contract (w.forCall tape i) w.heap.size i.args ds gs before hval hw' (hX _ _ _ (by rfl) hx) hsh).mono fun e W' ⟨v,he,hp⟩=>?_
 grind [ChangeSpec.post_blind]
end Go.X
namespace Go.Proofs.YtemclecmafjjfaaGreatDoor.N
open Go.X Go.Lib
set_option maxRecDepth 100000
def dF (x:Nat):DataW Unit:=.lit (.float .f64 x)
def dU (x:Int):DataW Unit:=.lit (.int .u64 x)
def dI (x:Int):DataW Unit:=.lit (.int .i64 x)
def dR (x:Nat × Nat):DataW Unit:=.agg [.lit (.int .u64 x.1),.lit (.int .u64 x.2)]
def LX (x:Nat × List UInt8):DataW Unit:=.agg [.lit (.int .i64 x.1),.lit (.string x.2)]
def eR2 :En (Nat × Nat):=⟨2,fun x=>[.int .u64 x.1,.int .u64 x.2],by decide,fun _=>rfl,fun x v h=>by simp at h;rcases h with rfl | rfl<;>rfl⟩
def eC2 :En (Nat × List UInt8):=⟨2,fun x=>[.int .i64 x.1,.string ⟨x.2.toArray⟩],by decide,fun _=>rfl,fun x v h=>by simp at h;rcases h with rfl | rfl<;>rfl⟩
theorem isU :(Rows.laid_internal_strconv_uint64pow10:DataW Unit)= .agg (tU.map dU):=by kernel_rfl
theorem isP :(Rows.laid_internal_strconv_powtab:DataW Unit)= .slice (tP.map dI) []:=by kernel_rfl
theorem isF :(Rows.laid_internal_strconv_float64pow10:DataW Unit)= .slice (tF.map dF) []:=by kernel_rfl
theorem isT :Rows.laid_internal_strconv_pow10Tab= .agg (Go.Pinned.pow10Rows.map dR):=rfl
theorem isL :Rows.laid_internal_strconv_leftcheats= .slice (Go.Pinned.cheatRows.map LX) []:=rfl
theorem NA :0<Go.Pinned.cheatRows.length:=by decide+kernel
theorem GX :∀(l:List (Nat × Nat)) (i:Nat) (v:Int),(l.flatMap fun x=>[(x.1:Int),(x.2:Int)])[i]? =some v->∃x,l[i/2]? =some x/\(eR2.enc x)[i % 2]? =some (.int .u64 v)
 | [],i,v,h=>by simp at h
 | x::l,0,v,h=>by simp at h;subst h;exact⟨x,rfl,rfl⟩
 | x::l,1,v,h=>by simp at h;subst h;exact⟨x,rfl,rfl⟩
 | x::l,i+2,v,h=>by
  simp only[List.flatMap_cons,List.cons_append,List.nil_append,List.getElem?_cons_succ]at h
  obtain⟨y,h1,h2⟩:=GX l i v h
  grind
section
variable {W:World}
theorem fR {n:String} {g:Nat} {t:TypeId} {d:DataW Unit} (hn:Tryz.prog.globalNamed n=some g) (ht:(Tryz.prog.globals[g]?).map (·.type)=some t) (h:VarReads Tryz.prog W n d):
  ∃cs fuel p,DataW.trod (fun _=>()) Tryz.prog W 0 (fun _=>true) false fuel t cs=some (d,p)/\∀(i:Nat) (v:Value),cs[i]? =some v->ac W.heap g i=some v:=by
 obtain⟨g',t',cs,fuel,p,h1,h2,h3,h4⟩:=h
 obtain rfl:=Option.some.inj (hn.symm.trans h1)
 obtain rfl:=Option.some.inj (ht.symm.trans h2)
 refine⟨cs.toList,fuel,p,h4,fun i v hi=>sH (s:=none) ?_⟩
 rw[World.var?_cell hn h3 i,<-Array.getElem?_toList];exact hi
theorem LY (h:VarReads Tryz.prog W "internal/strconv.uint64pow10" (.agg (tU.map dU))):∃e f,W.heap[1]? =some (.cells (tU.map fun z=>Value.int .u64 z).toArray e f):=by
 obtain⟨g',t',cs,fuel,p,h1,h2,h3,h4⟩:=h
 obtain rfl:=Option.some.inj ((show Tryz.prog.globalNamed "internal/strconv.uint64pow10" =some 1 by kernel_rfl).symm.trans h1)
 obtain rfl:=Option.some.inj ((show(Tryz.prog.globals[1]?).map (·.type)=some 156 by kernel_rfl).symm.trans h2)
 have u6:=oL (eK .u64) dU Tryz.underlying156 (by kernel_rfl) (iE (by kernel_rfl)) h4
 obtain⟨xs,m,_,_,hl,_⟩:=DataW.trod_array Tryz.underlying156 h4
 have hl:cs.toList.length=20:=hl.trans (by kernel_rfl)
 have e:cs.toList=tU.map fun z=>Value.int .u64 z:=by
  apply List.ext_getElem?
  intro i
  by_cases hi:i<20
  ·obtain⟨z,hz⟩:∃z,tU[i]? =some z:=⟨tU[i]'hi,List.getElem?_eq_getElem _⟩
   have:=u6 i z hz 0 _ rfl
   rw[show i*(eK IntKind.u64).sz+0=i from Nat.mul_one i]at this
   grind
  grind [List.length_map]
 unfold World.var? at h3
 rw[h1,Option.bind_some]at h3
 split at h3
 ·rename_i c el fr hh
  obtain rfl:=Option.some.inj h3
  refine⟨el,fr,hh.trans ?_⟩
  have e2:c=(tU.map fun z=>Value.int .u64 z).toArray:=by rw[<-e]
  rw[e2]
 ·cases h3
theorem NB (h:laidMetH Tryz.prog Rows.gmlBackRow.laid W) (hS:W.ShapedOpen Tryz.prog):∃gl,Gl gl W.heap:=by
 rw[MakeChecks.laidMetH_plain _ _ _ (by kernel_rfl)]at h
 have r:∀{n d},(n,d)∈Rows.gmlBackRow.laid->VarReads Tryz.prog W n d:=fun hm=>laidMet.reads h hm
 obtain⟨c3,f3,p3,t3,k3⟩:=fR (g:=2) (t:=4) (by kernel_rfl) (by kernel_rfl) (r (n:= "internal/strconv.optimize") (d:=Rows.laid_internal_strconv_optimize) (by simp[Rows.gmlBackRow]))
 obtain⟨c5,f5,p5,t5,k5⟩:=fR (g:=13) (t:=242) (by kernel_rfl) (by kernel_rfl) (r (n:= "internal/strconv.float64info") (d:=Rows.laid_internal_strconv_float64info) (by simp[Rows.gmlBackRow]))
 obtain⟨c6,f6,p6,t6,k6⟩:=fR (g:=1) (t:=156) (by kernel_rfl) (by kernel_rfl) (r (n:= "internal/strconv.uint64pow10") (d:=Rows.laid_internal_strconv_uint64pow10) (by simp[Rows.gmlBackRow]))
 obtain⟨c9,f9,p9,t9,k9⟩:=fR (g:=15) (t:=256) (by kernel_rfl) (by kernel_rfl) (r (n:= "internal/strconv.powtab") (d:=Rows.laid_internal_strconv_powtab) (by simp[Rows.gmlBackRow]))
 obtain⟨c10,f10,p10,t10,k10⟩:=fR (g:=16) (t:=27) (by kernel_rfl) (by kernel_rfl) (r (n:= "internal/strconv.float64pow10") (d:=Rows.laid_internal_strconv_float64pow10) (by simp[Rows.gmlBackRow]))
 obtain⟨c11,f11,p11,t11,k11⟩:=fR (g:=10) (t:=219) (by kernel_rfl) (by kernel_rfl) (r (n:= "internal/strconv.pow10Tab") (d:=Rows.laid_internal_strconv_pow10Tab) (by simp[Rows.gmlBackRow]))
 obtain⟨c12,f12,p12,t12,k12⟩:=fR (g:=11) (t:=224) (by kernel_rfl) (by kernel_rfl) (r (n:= "internal/strconv.leftcheats") (d:=Rows.laid_internal_strconv_leftcheats) (by simp[Rows.gmlBackRow]))
 obtain⟨c1,f1,p1,t1,k1⟩:=fR (g:=4) (t:=82) (by kernel_rfl) (by kernel_rfl) (r (n:= "strconv.ErrSyntax") (d:=Rows.laid_strconv_ErrSyntax) (by simp[Rows.gmlBackRow]))
 obtain⟨c2,f2,p2,t2,k2⟩:=fR (g:=5) (t:=82) (by kernel_rfl) (by kernel_rfl) (r (n:= "strconv.ErrRange") (d:=Rows.laid_strconv_ErrRange) (by simp[Rows.gmlBackRow]))
 have uu:=LY (by have:=r (n:= "internal/strconv.uint64pow10") (d:=Rows.laid_internal_strconv_uint64pow10) (by simp[Rows.gmlBackRow]);rwa[isU]at this)
 obtain⟨m1,hm1⟩:=cell_of_shapedOpen_int (g:=3) (t:=3) (k:=.i64) hS (of_decide_eq_true (by kernel_rfl)) (zero:=#[.int .i64 0]) (by kernel_rfl) rfl (by kernel_rfl) (by kernel_rfl) (by kernel_rfl)
 clear h r
 rw[isU]at t6
 rw[isP]at t9
 rw[isF]at t10
 rw[isT]at t11
 rw[isL]at t12
 have u6:=oL (eK .u64) dU Tryz.underlying156 (by kernel_rfl) (iE (by kernel_rfl)) t6
 obtain⟨pb,po,pc,rfl,u9⟩:=oK (eK .i64) dI Tryz.underlying256 (by kernel_rfl) (iE (by kernel_rfl)) (by decide) t9
 obtain⟨fb,fo,fc,rfl,u10⟩:=oK (⟨1,fun x=>[.float .f64 x],by decide,fun _=>rfl,fun x v h=>by simp at h;subst h;rfl⟩:En Nat) dF Tryz.underlying27 (by kernel_rfl) (zj (by kernel_rfl)) (by decide) t10
 have u11:=oL eR2 dR Tryz.underlying219 (by kernel_rfl) (fun n cs x p q=>by
  obtain⟨hl,ha⟩:=mj Tryz.underlying218 q
  obtain⟨m0,d0,q0,e0,h0⟩:=ha 0 _ rfl rfl (by kernel_rfl)
  obtain⟨m1,d1,q1,e1,h1⟩:=ha 1 _ rfl rfl (by kernel_rfl)
  cases e0;cases e1
  exact Ct hl (at_one (iE Tryz.underlying100 _ _ _ _ h0)) (at_one (iE Tryz.underlying100 _ _ _ _ h1))) t11
 obtain⟨lb,lo,lc,rfl,u12⟩:=oK eC2 LX Tryz.underlying224 (by kernel_rfl) (fun n cs x p q=>by
  obtain⟨hl,ha⟩:=mj Tryz.underlying223 q
  obtain⟨m0,d0,q0,e0,h0⟩:=ha 0 _ rfl rfl (by kernel_rfl)
  obtain⟨m1,d1,q1,e1,h1⟩:=ha 1 _ rfl rfl (by kernel_rfl)
  cases e0;cases e1
  exact Ct hl (at_one (iE Tryz.underlying3 _ _ _ _ h0)) (at_one (FR Tryz.underlying9 _ _ _ _ h1))) NA t12
 obtain⟨_,ha⟩:=mj Tryz.underlying242 t5
 have s5:∀(i:Nat) (f:Field) (k:IntKind) (x:Int),#[{name:= "mantbits",type:=105,offset:=0,embedded:=false,tag:= "",pkgPath:= "internal/strconv",byteOffset:=0},{name:= "expbits",type:=105,offset:=1,embedded:=false,tag:= "",pkgPath:= "internal/strconv",byteOffset:=8},{name:= "bias",type:=3,offset:=2,embedded:=false,tag:= "",pkgPath:= "internal/strconv",byteOffset:=16}][i]? =some f->f.offset=i->Tryz.prog.cellsOf f.type=1->
   Tryz.prog.underlying f.type=some (.int k)->([.lit (.int .u64 52),.lit (.int .u64 11),.lit (.int .i64 (-1023))]:List (DataW Unit))[i]? =some (.lit (.int k x))->ac W.heap 13 i=some (.int k x):=fun i f k x hf ho hc hu hx=>by
  obtain⟨m,d,q,e,h⟩:=ha i f hf ho hc
  obtain rfl:=Option.some.inj (hx.symm.trans e)
  exact k5 i _ (at_one (iE hu _ _ _ _ h))
 have ifc:∀{g f p cs} {d:DataW Unit} {s:String},DataW.trod (fun _=>()) Tryz.prog W 0 (fun _=>true) false f 82 cs=some (.iface s d,p)->(∀(i:Nat) (v:Value),cs[i]? =some v->ac W.heap g i=some v)->∃t v,ac W.heap g 0=some (.iface t v):=by
  intro g f p cs d s h k
  cases f with
  | zero=>simp[DataW.trod]at h
  | succ m=>
   unfold DataW.trod at h
   rw[Tryz.underlying82]at h
   split at h<;>simp_all
 refine⟨⟨pb,po,pc,fb,fo,fc,lb,lo,lc⟩,?_⟩
 exact{
  opt:=k3 0 _ (by rw[Cs Tryz.underlying4 _ _ _ _ t3];rfl)
  i0:=s5 0 _ _ _ rfl rfl (by kernel_rfl) Tryz.underlying105 rfl
  i1:=s5 1 _ _ _ rfl rfl (by kernel_rfl) Tryz.underlying105 rfl
  i2:=s5 2 _ _ _ rfl rfl (by kernel_rfl) Tryz.underlying3 rfl
  u:=fun i v hv=>by rw[Nat.zero_add];exact k6 i _ (by have:=u6 i v hv 0 _ rfl;rwa[show i*(eK IntKind.u64).sz+0=i from Nat.mul_one i]at this)
  t:=fun i v hv=>by
   rw[Nat.zero_add]
   obtain⟨x,hx,hv2⟩:=GX _ _ _ hv
   have:=u11 _ _ hx _ _ hv2
   rw[show i/2*eR2.sz+i % 2=i from Nat.div_add_mod' i 2]at this
   exact k11 i _ this
  p0:=k9 0 _ rfl
  p:=fun i v hv=>by have:=u9 i v hv 0 _ rfl;rwa[show po+i*(eK IntKind.i64).sz+0=po+i by show po+i*1+0=po+i;omega]at this
  f0:=k10 0 _ rfl
  f:=fun i v hv=>by have:=u10 i v hv 0 _ rfl;rwa[show fo+i*1+0=fo+i by omega]at this
  l0:=k12 0 _ rfl
  l:=fun i v hv=>by
   obtain⟨x,hx,rfl⟩:∃x,Go.Pinned.cheatRows[i]? =some x/\v=((x.1:Int),(⟨x.2.toArray⟩:ByteArray)):=by
    unfold tL at hv
    rw[List.getElem?_map]at hv
    obtain⟨x,h1,h2⟩:=Option.map_eq_some_iff.1 hv
    exact⟨x,h1,h2.symm⟩
   have a0:=u12 i x hx 0 _ rfl
   have a1:=u12 i x hx 1 _ rfl
   exact⟨a0,a1⟩
  uu:=uu
  ml:=⟨m1,sH hm1⟩
  e1:=ifc t1 k1
  e2:=ifc t2 k2}
theorem met (os:Os) (args:Array Value):laidMetH Tryz.prog Rows.gmlBackRow.laid ((World.laidAll Tryz.prog os Rows.gmlBackRow.laid).forCall (fun _ _=>0) ⟨#[],args,[]⟩).memory:=by
 rw[MakeChecks.laidMetH_plain _ _ _ (by kernel_rfl)]
 exact laidMet_laidAll _ (by kernel_rfl) (by kernel_rfl)
end
end Go.Proofs.YtemclecmafjjfaaGreatDoor.N
namespace Go.X
open Go.ChangeShapes Go.WideShapes Go.ChangeAt Go.RowKit
open Go.Deep
theorem vm {P:Program} {f:FuncId} {args:Array Value} {v:Value} {W:World} (c:ae P f args W.heap fun v' h'=>Fr [] W.heap h'/\v'=v):
  Calls P f args W fun e w'=>e= .returned v/\Below W.heap.size W w':=
 (c W rfl).mono fun e w' ⟨u,h1,h2,h3,h4⟩=>⟨by rw[h1,h4],⟨h2.os,h2.tape,h2.output,h3.size,fun k hk=>h3.blk k hk (by simp)⟩⟩
theorem yz {P:Program} {w:World} {r:Reach} {base:Nat} {t e:TypeId} {a:Addr} {len cap:Nat} (ht:P.underlying t=some (.slice e)) (h:Cell.okWide P w r base t (.slice (some a) len cap)):a.spot=none:=by
 simp only[Cell.okWide,ht,Cell.ok]at h
 exact h.2.2.2.1
theorem zL {P:Program} {w:World} {r:Reach} {base:Nat} {t e:TypeId} {a:Addr} {len cap:Nat} (ht:P.underlying t=some (.slice e)) (h:Value.okWide P w r base t (.slice (some a) len cap)):a.spot=none:=by
 simp only[Value.okWide,ht]at h
 exact yz ht h
section
variable {H:Type} {enc:TypeId × Value->H} {P:Program} {W:World} {base:Nat}
theorem Gs {α:Type} [Inhabited α] (E:En α) {t e:TypeId} {a:Option Addr} {len cap:Nat} {d:DataW H} {p:List MemPlace} (ht:P.underlying t=some (.slice e)) (hc:P.cellsOf e=E.sz)
  (hs:∀x,a=some x->x.spot=none)
  (hel:∀(n:Nat) (cs:List Value) (y:DataW H × List MemPlace),DataW.trod enc P W base (fun _=>true) true n e cs=some y->∃x:α,cs=E.enc x)
  (h:DataW.Trod enc P W base (fun _=>true) true t (.slice a len cap) d p):∃xs:List α,(Ck.vw E a len cap xs).ok W.heap/\(xs.length=0\/∃el sp,d= .slice el sp/\el.length=xs.length):=by
 obtain⟨fuel,hf⟩:=h
 have hcs0:(Value.slice a len cap).cells.toList=[.slice a len cap]:=rfl
 rw[hcs0]at hf
 rcases open_slice ht hf with⟨hcs,_⟩ | ⟨x,l,c,m,n,D,Pl,hcs,_,hl,hm,hmm,hd,hx⟩
 ·simp at hcs
  obtain⟨rfl,rfl,rfl⟩:=hcs
  exact⟨[],⟨⟨by simp[En.l],.inl ⟨rfl,rfl⟩⟩,rfl,Nat.le_refl _,fun _=>rfl⟩,.inl rfl⟩
 ·simp at hcs
  obtain⟨rfl,rfl,rfl⟩:=hcs
  simp only[if_true]at hmm
  subst hmm
  have hsp:=hs x rfl
  obtain⟨b,o,sp⟩:=x
  simp only at hsp
  subst hsp
  obtain⟨V,hV⟩:=choose_lt (α:=α) (p:=fun i v=>W.cells? base ((⟨b,o,none⟩:Addr).add (i*P.cellsOf e)) (P.cellsOf e)=some (E.enc v)) (fun i hi=>by
   obtain⟨cs',h1,h2⟩:=hx i hi
   obtain⟨v,rfl⟩:=hel _ _ _ h2
   exact⟨v,h1⟩)
  refine⟨(List.range len).map V,⟨⟨by rw[En.l_len];simp,.inr ⟨b,o,rfl,fun j v hj=>?_⟩⟩,by simp,hl,fun q=>by cases q⟩,.inr ⟨_,_,congrArg Prod.fst hd,by simp⟩⟩
  have hjl:j<len*E.sz:=by
   have:=(List.getElem?_eq_some_iff.1 hj).1
   rw[En.l_len]at this;simpa using this
  have hi:j/E.sz<len:=Nat.div_lt_of_lt_mul (by rw[Nat.mul_comm];exact hjl)
  have ht2:j % E.sz<E.sz:=Nat.mod_lt _ E.pos
  have ej:j/E.sz*E.sz+j % E.sz=j:=Nat.div_add_mod' j E.sz
  have g1:((List.range len).map V)[j/E.sz]? =some (V (j/E.sz)):=by simp[hi]
  have hlen:j % E.sz<(E.enc (V (j/E.sz))).length:=by rw[E.len];exact ht2
  have g2:=En.l_get g1 (List.getElem?_eq_getElem hlen)
  rw[ej,hj]at g2
  obtain rfl:=Option.some.inj g2
  have g3:=(World.cells?_some (hV (j/E.sz) (by omega))).2.2 (j % E.sz) (by rw[hc];exact ht2)
  rw[Go.Deep.add_add,hc,ej,List.getElem?_eq_getElem hlen]at g3
  rw[<-g3]
  rw[show(⟨b,o,none⟩:Addr).add j=⟨b,o+j,none⟩from cq _ _ _,ba]
theorem Gt {n:Nat} {t e:TypeId} {cs:List Value} {y:DataW H × List MemPlace} (ht:P.underlying t=some (.array 2 e)) (he:P.underlying e=some (.int .i64)) (h1:P.cellsOf t=2) (h2:P.cellsOf e=1) (h:DataW.trod enc P W base (fun _=>true) true n t cs=some y):∃x:Int × Int,cs=eP.enc x:=by
 obtain⟨xs,m,_,_,hl,hxl,hx⟩:=DataW.trod_array ht h
 rw[h1]at hl
 match cs,hl with
 | [c0,c1],_=>
  match xs,hxl with
  | [y0,y1],_=>
   have q0:=hx 0 (by omega)
   have q1:=hx 1 (by omega)
   rw[h2]at q0 q1
   simp at q0 q1
   obtain⟨a,ha,_⟩:=DataW.trod_int he q0
   obtain⟨b,hb,_⟩:=DataW.trod_int he q1
   simp at ha hb
   exact⟨(a,b),by simp[eP,ha,hb]⟩
end
theorem Dt {cs:List Ck} (h:ao cs=[]) {k:Nat} {d:Ck} (hd:cs[k]? =some d):∀b,b∉d.own:=fun b hb=>by
 have:b∈ao cs:=List.mem_flatMap.2 ⟨d,List.mem_of_getElem? hd,hb⟩
 rw[h]at this;simp at this
theorem Hp.vw {h:ab} {c:Ck} {cs:List Ck} (hc:c.ok h) (ho:c.own=[]) (H:Hp h cs) (hn:ao cs=[]):Hp h (c::cs):=
 Hp.view hc ho H fun _ _ hd b hb=>absurd hb (Dt hn hd b)
section
variable {H:Type} {enc:TypeId × Value->H} {P:Program} {W:World} {base:Nat}
end
end Go.X
namespace Go.Proofs.YtemclecmafjjfaaGreatDoor
end Go.Proofs.YtemclecmafjjfaaGreatDoor
namespace Go.X
open Go.ChangeShapes Go.WideShapes Go.ChangeAt Go.RowKit Go.Deep
section
variable {H:Type} {enc:TypeId × Value->H} {P:Program} {W:World} {base:Nat}
theorem oZ {α:Type} [Inhabited α] (Q:α->DataW H->Prop) (E:En α) {t e:TypeId} {a:Option Addr} {len cap:Nat} {d:DataW H} {p:List MemPlace} (ht:P.underlying t=some (.slice e)) (hc:P.cellsOf e=E.sz)
  (hs:∀x,a=some x->x.spot=none)
  (hel:∀(n:Nat) (cs:List Value) (y:DataW H × List MemPlace),DataW.trod enc P W base (fun _=>true) true n e cs=some y->∃x:α,cs=E.enc x/\Q x y.1)
  (h:DataW.Trod enc P W base (fun _=>true) true t (.slice a len cap) d p):∃xs:List α,(Ck.vw E a len cap xs).ok W.heap/\(xs.length=0\/∃el sp,d= .slice el sp/\el.length=xs.length/\∀(i:Nat) (x:α),xs[i]? =some x->∃dd,el[i]? =some dd/\Q x dd):=by
 obtain⟨fuel,hf⟩:=h
 have hcs0:(Value.slice a len cap).cells.toList=[.slice a len cap]:=rfl
 rw[hcs0]at hf
 rcases open_slice ht hf with⟨hcs,_⟩ | ⟨x,l,c,m,n,D,Pl,hcs,_,hl,hm,hmm,hd,hx⟩
 ·simp at hcs
  obtain⟨rfl,rfl,rfl⟩:=hcs
  exact⟨[],⟨⟨by simp[En.l],.inl ⟨rfl,rfl⟩⟩,rfl,Nat.le_refl _,fun _=>rfl⟩,.inl rfl⟩
 ·simp at hcs
  obtain⟨rfl,rfl,rfl⟩:=hcs
  simp only[if_true]at hmm
  subst hmm
  have hsp:=hs x rfl
  obtain⟨b,o,sp⟩:=x
  simp only at hsp
  subst hsp
  obtain⟨V,hV⟩:=choose_lt (α:=α) (p:=fun i v=>W.cells? base ((⟨b,o,none⟩:Addr).add (i*P.cellsOf e)) (P.cellsOf e)=some (E.enc v)/\Q v (D i)) (fun i hi=>by
   obtain⟨cs',h1,h2⟩:=hx i hi
   obtain⟨v,rfl,hq⟩:=hel _ _ _ h2
   exact⟨v,h1,hq⟩)
  refine⟨(List.range len).map V,⟨⟨by rw[En.l_len];simp,.inr ⟨b,o,rfl,fun j v hj=>?_⟩⟩,by simp,hl,fun q=>by cases q⟩,.inr ⟨_,_,congrArg Prod.fst hd,by simp,fun i x hi=>?_⟩⟩
  rotate_left
  ·have hil:i<len:=by have:=(List.getElem?_eq_some_iff.1 hi).1;simpa using this
   have e1:x=V i:=by simp[hil]at hi;exact hi.symm
   subst e1
   exact⟨D i,by simp[hil],(hV i (by omega)).2⟩
  have hjl:j<len*E.sz:=by
   have:=(List.getElem?_eq_some_iff.1 hj).1
   rw[En.l_len]at this;simpa using this
  have hi:j/E.sz<len:=Nat.div_lt_of_lt_mul (by rw[Nat.mul_comm];exact hjl)
  have ht2:j % E.sz<E.sz:=Nat.mod_lt _ E.pos
  have ej:j/E.sz*E.sz+j % E.sz=j:=Nat.div_add_mod' j E.sz
  have g1:((List.range len).map V)[j/E.sz]? =some (V (j/E.sz)):=by simp[hi]
  have hlen:j % E.sz<(E.enc (V (j/E.sz))).length:=by rw[E.len];exact ht2
  have g2:=En.l_get g1 (List.getElem?_eq_getElem hlen)
  rw[ej,hj]at g2
  obtain rfl:=Option.some.inj g2
  have g3:=(World.cells?_some (hV (j/E.sz) (by omega)).1).2.2 (j % E.sz) (by rw[hc];exact ht2)
  rw[Go.Deep.add_add,hc,ej,List.getElem?_eq_getElem hlen]at g3
  rw[<-g3]
  rw[show(⟨b,o,none⟩:Addr).add j=⟨b,o+j,none⟩from cq _ _ _,ba]
theorem pd {t e:TypeId} {a:Option Addr} {len cap:Nat} {d:DataW H} {p:List MemPlace} (ht:P.underlying t=some (.slice e)) (he:P.underlying e=some .string) (hc:P.cellsOf e=1)
  (hs:∀x,a=some x->x.spot=none) (h:DataW.Trod enc P W base (fun _=>true) true t (.slice a len cap) d p):
  ∃xs:List ByteArray,(Ck.vw eS a len cap xs).ok W.heap/\∀x∈xs,x.size<=9223372036854775807:=by
 obtain⟨xs,h1,h2⟩:=oZ (fun x dd=>x.size<=9223372036854775807) eS (enc:=enc) (base:=base) ht hc hs (fun n cs y q=>by
  obtain⟨m,rfl,h1,h2⟩:=DataW.trod_string he q
  exact⟨m,rfl,h2⟩) h
 refine⟨xs,h1,fun x hx=>?_⟩
 rcases h2 with h2 | ⟨el,sp,_,_,h3⟩
 ·rw[List.eq_nil_of_length_eq_zero h2]at hx;cases hx
 ·obtain⟨i,hi,rfl⟩:=List.mem_iff_getElem.1 hx
  obtain⟨dd,_,h4⟩:=h3 i xs[i] (List.getElem?_eq_getElem hi)
  exact h4
end
end Go.X
namespace Go.Proofs.YtemclecmafjjfaaGreatDoor
set_option maxRecDepth 100000
def blank :Char:=Char.ofNat 32
theorem Cm (r:List Char):wordsSigns (blank::r)=[]::wordsSigns r:=rfl
theorem FH {c:Char} (hc:c≠blank) {r w:List Char} {ws:List (List Char)} (h:wordsSigns r=w::ws):wordsSigns (c::r)=(c::w)::ws:=by
 rw[wordsSigns]
 ·rw[h]
 ·exact hc
theorem nt :∀(w r:List Char),w.all (fun c=>c != blank)=true->wordsSigns (w++blank::r)=w::wordsSigns r
 | [],r,_=>Cm r
 | c::w,r,h=>by
  simp only[List.all_cons,Bool.and_eq_true]at h
  exact FH (by simpa using h.1) (nt w r h.2)
def qK :List Char:=[Char.ofNat 104,Char.ofNat 97,Char.ofNat 114,Char.ofNat 110,Char.ofNat 101,Char.ofNat 115,Char.ofNat 115]
def qL :List Char:=[Char.ofNat 50,Char.ofNat 56,Char.ofNat 102,Char.ofNat 97,Char.ofNat 51,Char.ofNat 99,Char.ofNat 101,Char.ofNat 52,Char.ofNat 57,Char.ofNat 51,Char.ofNat 98,Char.ofNat 57,Char.ofNat 101,Char.ofNat 55,Char.ofNat 48,Char.ofNat 51,Char.ofNat 51,Char.ofNat 102,Char.ofNat 51,Char.ofNat 100,Char.ofNat 53,Char.ofNat 50,Char.ofNat 49,Char.ofNat 101,Char.ofNat 53,Char.ofNat 57,Char.ofNat 53,Char.ofNat 48,Char.ofNat 101,Char.ofNat 56,Char.ofNat 97,Char.ofNat 98,Char.ofNat 50,Char.ofNat 49,Char.ofNat 102,Char.ofNat 101,Char.ofNat 102,Char.ofNat 100,Char.ofNat 55,Char.ofNat 48,Char.ofNat 57,Char.ofNat 100,Char.ofNat 52,Char.ofNat 48,Char.ofNat 56,Char.ofNat 49,Char.ofNat 55,Char.ofNat 100,Char.ofNat 55,Char.ofNat 98,Char.ofNat 57,Char.ofNat 51,Char.ofNat 101,Char.ofNat 53,Char.ofNat 55,Char.ofNat 54,Char.ofNat 56,Char.ofNat 99,Char.ofNat 50,Char.ofNat 50,Char.ofNat 99,Char.ofNat 102,Char.ofNat 102,Char.ofNat 49]
def gv :List Char:=[Char.ofNat 99,Char.ofNat 117,Char.ofNat 116]
def GU :List Char:=[Char.ofNat 97,Char.ofNat 116,Char.ofNat 32,Char.ofNat 116,Char.ofNat 114,Char.ofNat 97,Char.ofNat 99,Char.ofNat 101,Char.ofNat 114,Char.ofNat 121,Char.ofNat 47,Char.ofNat 116,Char.ofNat 114,Char.ofNat 97,Char.ofNat 99,Char.ofNat 101,Char.ofNat 114,Char.ofNat 121,Char.ofNat 108,Char.ofNat 97,Char.ofNat 119,Char.ofNat 51,Char.ofNat 48,Char.ofNat 46,Char.ofNat 71,Char.ofNat 109,Char.ofNat 108,Char.ofNat 66,Char.ofNat 97,Char.ofNat 99,Char.ofNat 107,Char.ofNat 32,Char.ofNat 116,Char.ofNat 114,Char.ofNat 97,Char.ofNat 99,Char.ofNat 101,Char.ofNat 114,Char.ofNat 121,Char.ofNat 47,Char.ofNat 116,Char.ofNat 114,Char.ofNat 97,Char.ofNat 99,Char.ofNat 101,Char.ofNat 114,Char.ofNat 121,Char.ofNat 108,Char.ofNat 97,Char.ofNat 119,Char.ofNat 51,Char.ofNat 48,Char.ofNat 46,Char.ofNat 71,Char.ofNat 109,Char.ofNat 108,Char.ofNat 66,Char.ofNat 108,Char.ofNat 97,Char.ofNat 110,Char.ofNat 107,Char.ofNat 115]
theorem FI :Tryz.pinned.checked.prog.initOrder=String.ofList (qK++blank::(qL++blank::(gv++blank::GU))):=by kernel_rfl
theorem mg :∃tl,wordsSigns Tryz.pinned.checked.prog.initOrder.toList=qK::qL::gv::tl:=by
 refine⟨wordsSigns GU,?_⟩
 rw[FI,String.toList_ofList,nt _ _ (by kernel_rfl),nt _ _ (by kernel_rfl),nt _ _ (by kernel_rfl)]
theorem behind (tl:List (List Char)):behindMainWord (qK::qL::gv::tl)=gv::tl:=by kernel_rfl
theorem GV (tl:List (List Char)):stripLifts liftWords (gv::tl)=([],gv::tl):=by kernel_rfl
theorem ID :Tryz.pinned.checked.prog.doorFits []=true:=by kernel_rfl
theorem later :Tryz.pinned.checked.prog.laysLater=false:=by kernel_rfl
theorem IE :Tryz.pinned.checked.prog.bearsReflect=false:=by kernel_rfl
theorem isC :(gv== "cut".toList)=true:=by kernel_rfl
theorem LN :(gv== "gc".toList)=false:=by kernel_rfl
theorem LO :(gv== "spec".toList)=false:=by kernel_rfl
theorem LQ :(gv== "carried".toList)=false:=by kernel_rfl
theorem GW (tl:List (List Char)):((gv::tl).head? ==some "cut".toList)=true:=by
 rw[List.head?_cons,Option.some_beq_some];exact isC
theorem uj {P:Program} {tl:List (List Char)} (h:wordsSigns P.initOrder.toList=qK::qL::gv::tl) (ID:P.doorFits []=true) (later:P.laysLater=false) (hrefl:P.bearsReflect=false):P.mayEnter=true:=by
 unfold Program.mayEnter
 rw[h,behind]
 simp only[GV,ID,later,hrefl,LN,LO,LQ,GW,Bool.false_or,Bool.or_false,Bool.false_and,Bool.not_false,Bool.or_true,Bool.and_true,Bool.and_self]
 rfl
theorem Cn {P:Program} {tl:List (List Char)} (h:wordsSigns P.initOrder.toList=qK::qL::gv::tl):P.liftsFinal=false:=by
 unfold Program.liftsFinal Program.headLifts
 rw[h,behind]
 have hk:((gv::tl).head? ==some "carried".toList)=false:=by rw[List.head?_cons,Option.some_beq_some];exact LQ
 simp only[GV,hk,GW,Bool.false_and,Bool.false_or,if_true,List.contains_nil]
theorem FJ {P:Program} {tl:List (List Char)} (h:wordsSigns P.initOrder.toList=qK::qL::gv::tl):P.make=some .cut:=by
 unfold Program.make Program.headLifts
 rw[h,behind]
 simp only[isC,LN,LO,Bool.or_false,Bool.true_or,if_true,Bool.false_eq_true,if_false]
theorem zg :Tryz.pinned.checked.prog.mayEnter=true:=mg.elim fun _ h=>uj h ID later IE
theorem zh :Tryz.pinned.checked.prog.liftsFinal=false:=mg.elim fun _ h=>Cn h
theorem FK :Tryz.pinned.checked.prog.make=some .cut:=mg.elim fun _ h=>FJ h
end Go.Proofs.YtemclecmafjjfaaGreatDoor
/- A row's closed facts, one by one. Conditions: none. -/
namespace Go.X
theorem an {a b:Bool} (x:a=true) (y:b=true):(a&&b)=true:=by rw[x,y];rfl
theorem oA {P:Program} {f:FuncId} {fn:Func} {s:ChangeSpec} {c:OpenClaim}
  (h0:(c.wf (OpenSpec.ofChange s))=true)
  (h1:(laidOutB P)=true)
  (h2:(mapsRowed P)=true)
  (h3:(fn.params.all (P.readableRec ·))=true)
  (h4:(namedTie P c.named s.vars)=true)
  (h5:((c.stops==[]))=true)
  (h6:((P.stops==[]))=true)
  (h7:((c.knobs==[]))=true)
  (h8:((P.stopKnobs==[]))=true)
  (h9:((c.inPlace==P.inPlace f))=true)
  (h10:((c.unfollowed==P.unfollowed f))=true)
  (h11:((c.recurses==P.recurses f))=true)
  (h12:((c.named==P.varsNamed f))=true)
  (h13:((c.maps==(fn.params.toList++s.plain.varTypes P).any (P.mapsRec ·)))=true)
  (h14:((c.ifaces==(fn.params.toList++s.plain.varTypes P).any (P.ifacesRec ·)))=true)
  (h15:((c.mapsOut==P.mapsAmong fn.resultTypes.toList))=true)
  (h16:((c.loops==(fn.params.toList++s.plain.varTypes P).any (P.loopsFrom ·)))=true)
  (h17:((c.wideKeys==(fn.params.toList++s.plain.varTypes P++fn.resultTypes.toList).any (P.wideKeysFrom ·)))=true)
  (h18:(s.vars.all (P.varReadable ·))=true)
  (h19:(fn.resultTypes.all (fun t=>P.readableRec t&&decide (t<P.types.size)))=true)
  (h20:((c.ifacesOut==fn.resultTypes.toList.any (P.ifacesRec ·)))=true)
  (h21:((c.loopsOut==fn.resultTypes.toList.any (P.loopsFrom ·)))=true)
  (h22:((c.plainKeys==P.plainKeys))=true)
  (h23:(c.shortTexts.isNone)=true)
  (h24:(P.stopsHeard)=true)
  (h25:(P.mayEnter)=true)
  (l1:P.liftsFinal=false) (l2:c.lifted=false)
  (m1:P.make=some .cut) (m2:c.make= .cut)
  (h28:((c.kinds==(if c.domain.isEmpty then []else fn.params.toList.map fun t=>match P.underlying t with | some (.int k)=>some k | _=>none)))=true)
  (h29:((c.pinned==c.pinnedBy))=true)
  (h30:((c.veiled==(fn.params.toList++s.plain.varTypes P++fn.resultTypes.toList).any (P.veiledRec ·)))=true)
  (h31:(c.veiledFits P fn.params.toList (fn.params.toList++s.plain.varTypes P++fn.resultTypes.toList))=true):joinedFacts P f fn s c=true:=by
 unfold joinedFacts
 exact an (an (an (an (an (an (an (an (an (an (an (an (an (an (an (an (an (an (an (an (an (an (an (an (an (an (an (an (an (an (an h0 h1) h2) h3) h4) h5) h6) h7) h8) h9) h10) h11) h12) h13) h14) h15) h16) h17) h18) h19) h20) h21) h22) h23) h24) h25) (by rw[l1,l2];rfl)) (by rw[m1,m2];rfl)) h28) h29) h30) h31
end Go.X
namespace Go.Proofs.YtemclecmafjjfaaGreatDoor
set_option maxRecDepth 100000
theorem LR :(laidOutB Tryz.pinned.checked.prog)=true:=by kernel_rfl
theorem LU :(mapsRowed Tryz.pinned.checked.prog)=true:=by kernel_rfl
theorem LV :((Tryz.pinned.checked.prog.stops==[]))=true:=by kernel_rfl
theorem LW :((Tryz.pinned.checked.prog.stopKnobs==[]))=true:=by kernel_rfl
theorem IG :(Tryz.pinned.checked.prog.stopsHeard)=true:=by kernel_rfl
theorem Ce :true=Tryz.pinned.checked.prog.looks []:=by kernel_rfl
theorem FC :Tryz.pinned.checked.prog.mainIs=some ((true,"28fa3ce493b9e7033f3d521e5950e8ab21fefd709d40817d7b93e5768c22cff1").1,(true,"28fa3ce493b9e7033f3d521e5950e8ab21fefd709d40817d7b93e5768c22cff1").2.toList):=by kernel_rfl
end Go.Proofs.YtemclecmafjjfaaGreatDoor
namespace Go.Proofs.YtemclecmafjjfaaGreatDoor.N
open Go.Proofs.YtemclecmafjjfaaGreatDoor
open Go.X Go.ChangeShapes Go.WideShapes Go.ChangeAt Go.RowKit Go.Deep
set_option maxRecDepth 100000
section
variable {H:Type} {enc:TypeId × Value->H} {W:World} {base b0:Nat} {r:Reach}
theorem oz {n:Nat} {cs:List Value} {y:DataW H × List MemPlace} {t:TypeId} (ht:Tryz.prog.underlying t=some (.float .f64)) (h:DataW.trod enc Tryz.prog W base (fun _=>true) true n t cs=some y):∃x:Nat,cs=[.float .f64 x]/\x<18446744073709551616:=by
 cases n with
 | zero=>simp[DataW.trod]at h
 | succ n=>
  unfold DataW.trod at h
  rw[ht]at h
  split at h<;>simp_all
  rename_i k k2 b e
  subst e
  have:=h.1.2
  simpa[Lit.wf]using this
theorem zf {n:Nat} {cs:List Value} {y:DataW H × List MemPlace} (h:DataW.trod enc Tryz.prog W base (fun _=>true) true n 71 cs=some y):∃x:Nat × Nat,cs=eFF.enc x/\x.1<18446744073709551616/\x.2<18446744073709551616:=by
 obtain⟨y0,y1,m,_,hl,t0,t1⟩:=trod_struct2 Tryz.underlying71 h
 have hc:Tryz.prog.cellsOf 54=1:=by kernel_rfl
 have h2:Tryz.prog.cellsOf 71=2:=by kernel_rfl
 rw[h2]at hl
 dsimp only at t0 t1
 rw[hc]at t0 t1
 match cs,hl with
 | [c0,c1],_=>
  simp at t0 t1
  obtain⟨a,ha,wa⟩:=oz Tryz.underlying54 t0
  obtain⟨b,hb,wb⟩:=oz Tryz.underlying54 t1
  simp at ha hb
  exact⟨(a,b),by simp[eFF,ha,hb],wa,wb⟩
theorem iD {t e:TypeId} {n:Nat} {c:Value} {y:DataW H × List MemPlace} (hs:Tryz.prog.underlying t=some (.slice e)) (h:DataW.trod enc Tryz.prog W base (fun _=>true) true n t [c]=some y):∃a l k,c= .slice a l k:=by
 rcases open_slice hs h with⟨e,_⟩ | ⟨x,l,c,_,_,_,_,e,_⟩
 ·simp at e;exact⟨_,_,_,e⟩
 ·simp at e;exact⟨_,_,_,e⟩
theorem Cf {α:Type} {Q:α->Prop} {xs:List α} {d:DataW H} (h:xs.length=0\/∃el sp,d= .slice el sp/\el.length=xs.length/\∀(i:Nat) (x:α),xs[i]? =some x->∃dd,el[i]? =some dd/\Q x):∀x∈xs,Q x:=by
 intro x hx
 rcases h with h | ⟨el,sp,_,_,h⟩
 ·rw[List.eq_nil_of_length_eq_zero h]at hx;cases hx
 ·obtain⟨i,hi,rfl⟩:=List.mem_iff_getElem.1 hx
  obtain⟨_,_,q⟩:=h i xs[i] (List.getElem?_eq_getElem hi)
  exact q
structure DocIn (W:World) (v:Value) (m:MD) (u:MDs):Prop where
 v:v=m.v u
 eE:(Ck.vw eP u.aE u.nE u.cE m.es).ok W.heap
 eL:(Ck.vw eS u.aL u.nL u.cL m.ls).ok W.heap
 eS:(Ck.vw eFF u.aS u.nS u.cS m.ss).ok W.heap
 eW:(Ck.vw eF u.aW u.nW u.cW m.ws).ok W.heap
 ls:∀x∈m.ls,x.size<=9223372036854775807
 ss:∀p∈m.ss,p.1<18446744073709551616/\p.2<18446744073709551616
 ws:∀x∈m.ws,x<18446744073709551616
theorem Cg {v:Value} {d:DataW H} {p:List MemPlace} (hv:Value.okWide Tryz.prog W r b0 29 v) (h:DataW.Trod enc Tryz.prog W base (fun _=>true) true 29 v d p):∃m u,DocIn W v m u:=by
 obtain⟨cs,rfl,hcs⟩:=okWide_struct Tryz.underlying29 hv
 have hrow:Row.okWide Tryz.prog W r b0 29 cs:=by
  have hv':=hv
  simp only[Value.okWide,Tryz.underlying29]at hv'
  obtain⟨cs',e1,_,hr⟩:=hv'
  cases e1
  exact hr
 obtain⟨tys,q1,_,q2⟩:=hrow
 rw[show Tryz.prog.cellTypes Tryz.prog.depth 29=some [3,22,4,25,26,27] by kernel_rfl]at q1
 obtain rfl:=Option.some.inj q1
 rw[show Tryz.prog.cellsOf 29=6 by kernel_rfl]at hcs
 obtain⟨fuel,hf⟩:=h
 obtain⟨xs,n,_,_,hl,hlen,hfl⟩:=DataW.trod_struct Tryz.underlying29 hf
 obtain⟨l⟩:=cs
 match l,hcs with
 | [c0,c1,c2,c3,c4,c5],_=>
  have hcl:(Value.agg ⟨[c0,c1,c2,c3,c4,c5]⟩).cells.toList=[c0,c1,c2,c3,c4,c5]:=rfl
  rw[hcl]at hfl
  match xs,hlen with
  | [y0,y1,y2,y3,y4],_=>
   have t0:DataW.trod enc Tryz.prog W base (fun _=>true) true n 24 (([c0,c1,c2,c3,c4,c5].drop 0).take (Tryz.prog.cellsOf 24))=some y0:=hfl 0 _ rfl
   have t1:DataW.trod enc Tryz.prog W base (fun _=>true) true n 4 (([c0,c1,c2,c3,c4,c5].drop 2).take (Tryz.prog.cellsOf 4))=some y1:=hfl 1 _ rfl
   have t2:DataW.trod enc Tryz.prog W base (fun _=>true) true n 25 (([c0,c1,c2,c3,c4,c5].drop 3).take (Tryz.prog.cellsOf 25))=some y2:=hfl 2 _ rfl
   have t3:DataW.trod enc Tryz.prog W base (fun _=>true) true n 26 (([c0,c1,c2,c3,c4,c5].drop 4).take (Tryz.prog.cellsOf 26))=some y3:=hfl 3 _ rfl
   have t4:DataW.trod enc Tryz.prog W base (fun _=>true) true n 27 (([c0,c1,c2,c3,c4,c5].drop 5).take (Tryz.prog.cellsOf 27))=some y4:=hfl 4 _ rfl
   rw[show Tryz.prog.cellsOf 24=2 by kernel_rfl]at t0
   rw[show Tryz.prog.cellsOf 4=1 by kernel_rfl]at t1
   rw[show Tryz.prog.cellsOf 25=1 by kernel_rfl]at t2
   rw[show Tryz.prog.cellsOf 26=1 by kernel_rfl]at t3
   rw[show Tryz.prog.cellsOf 27=1 by kernel_rfl]at t4
   simp at t0 t1 t2 t3 t4
   obtain⟨z0,z1,k,_,_,s0,s1⟩:=trod_struct2 Tryz.underlying24 t0
   dsimp only at s0 s1
   rw[show Tryz.prog.cellsOf 3=1 by kernel_rfl]at s0
   rw[show Tryz.prog.cellsOf 22=1 by kernel_rfl]at s1
   simp at s0 s1
   obtain⟨n,hm,_⟩:=DataW.trod_int Tryz.underlying3 s0
   simp at hm
   subst hm
   obtain⟨aE,nE,cE,rfl⟩:=iD Tryz.underlying22 s1
   obtain⟨aL,nL,cL,rfl⟩:=iD Tryz.underlying25 t2
   obtain⟨aS,nS,cS,rfl⟩:=iD Tryz.underlying26 t3
   obtain⟨aW,nW,cW,rfl⟩:=iD Tryz.underlying27 t4
   obtain⟨dr,rfl⟩:∃b,c2= .bool b:=by
    obtain⟨b,hb,_⟩:=DataW.trod_bool Tryz.underlying4 t1
    simp at hb;exact⟨b,hb⟩
   have sp:∀(k:Nat) (t e:TypeId) (a:Option Addr) (l c:Nat),Tryz.prog.underlying t=some (.slice e)-> [3,22,4,25,26,27][k]? =some t->(#[Value.int .i64 n,.slice aE nE cE,.bool dr,.slice aL nL cL,.slice aS nS cS,.slice aW nW cW]:Array Value)[k]? =some (.slice a l c)->k<6->∀x,a=some x->x.spot=none:=by
    rintro k t e a l c ht hk hv hk6 x rfl
    obtain⟨u,q3,q4⟩:=q2 k _ hv
    rw[Nat.mod_eq_of_lt (by simpa using hk6),hk]at q3
    obtain rfl:=Option.some.inj q3
    exact yz ht q4
   obtain⟨es,hes,_⟩:=Gs eP (enc:=enc) (base:=base) Tryz.underlying22 (by kernel_rfl) (sp 1 22 51 _ _ _ Tryz.underlying22 rfl rfl (by decide)) (fun n cs y=>Gt Tryz.underlying51 Tryz.underlying3 (by kernel_rfl) (by kernel_rfl)) ⟨_,s1⟩
   obtain⟨ls,hls,hl2⟩:=pd (enc:=enc) (base:=base) Tryz.underlying25 Tryz.underlying9 (by kernel_rfl) (sp 3 25 9 _ _ _ Tryz.underlying25 rfl rfl (by decide)) ⟨_,t2⟩
   obtain⟨ss,hss,hs2⟩:=oZ (fun(x:Nat × Nat) _=>x.1<18446744073709551616/\x.2<18446744073709551616) eFF (enc:=enc) (base:=base) Tryz.underlying26 (by kernel_rfl) (sp 4 26 71 _ _ _ Tryz.underlying26 rfl rfl (by decide)) (fun n cs y h=>zf h) ⟨_,t3⟩
   obtain⟨ws,hws,hw2⟩:=oZ (fun(x:Nat) _=>x<18446744073709551616) eF (enc:=enc) (base:=base) Tryz.underlying27 (by kernel_rfl) (sp 5 27 54 _ _ _ Tryz.underlying27 rfl rfl (by decide)) (fun n cs y h=>oz Tryz.underlying54 h) ⟨_,t4⟩
   exact⟨⟨n,dr,es,ls,ss,ws⟩,⟨aE,nE,cE,aL,nL,cL,aS,nS,cS,aW,nW,cW⟩,rfl,hes,hls,hss,hws,hl2,Cf hs2,Cf hw2⟩
end
end Go.Proofs.YtemclecmafjjfaaGreatDoor.N
