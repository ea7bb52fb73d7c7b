/- gml.Same. Conditions: none. -/
import Derived.Test.YtlflalecmhgmjaaGreatDoorHClean
import Derived.Test.YtlflalecmhgmjaaGreatDoorKWr
import Derived.Test.YtlflalecmhgmjaaGreatDoorWEnv
import Derived.Test.YtlflalecmhgmjaaGreatDoorYGl
set_option linter.unusedVariables false
set_option linter.unusedSimpArgs false
namespace Go.Proofs.YtlflalecmhgmjaaGreatDoor.N
open Go.Proofs.YtlflalecmhgmjaaGreatDoor
open Go.X
open Go.Proofs
set_option maxRecDepth 100000
theorem bits101' (b:Nat):ExtH Tryz.prog 101 #[.float .f64 b] (· = .int .u64 b):=
 ext_pure Tryz.func101 (by kernel_rfl) (by kernel_rfl) (by kernel_rfl) (e:=Extern.MathFloatBits.float64bits) (by kernel_rfl) rfl
def fe (x y:Nat):Bool:=(isNaN x&&isNaN y)||x==y
def fe2 (p q:Nat × Nat):Bool:=fe p.1 q.1&&fe p.2 q.2
theorem ok61' {x y:Nat} {R:Bool->Prop} (r:R (fe x y)):Ok61 x y R:=by
 apply ok61
 unfold T61
 rw[order_ne,order_ne]
 have e:(((x:Int))==((y:Int)))=(x==y):=by rw[Bool.eq_iff_iff];simp;omega
 unfold fe at r
 refine⟨fun b=>b=(x==y)/\(isNaN x&&isNaN y)=false,cnd_b (fun h1=>cnd_b (fun h2=>?_) fun h2=>?_) fun h1=>?_,?_⟩
 ·rw [h1,h2]at r;exact r
 ·exact callE_of (bits101' _) ⟨_,rfl,callE_of (bits101' _) ⟨_,rfl,e,by rw[h2,Bool.and_false]⟩⟩
 ·exact callE_of (bits101' _) ⟨_,rfl,callE_of (bits101' _) ⟨_,rfl,e,by rw[h1];rfl⟩⟩
 ·rintro _ ⟨rfl,h⟩
  rw[h,Bool.false_or]at r;exact r
theorem c61 {x y:Nat} {h:Heap}:CallsH Tryz.prog 61 #[.float .f64 x,.float .f64 y] h fun v h'=>v= .bool (fe x y)/\Fr [] h h':=
 (ok61' (R:=fun r=>r=fe x y) rfl h (Hp.nil h)).mono fun v h' ⟨r,Y,e,q⟩=>⟨by rw[e,q],Y.fr⟩
theorem c60 {x x2 y y2:Nat} {h:Heap}:CallsH Tryz.prog 60 #[.agg #[.float .f64 x,.float .f64 x2],.agg #[.float .f64 y,.float .f64 y2]] h fun v h'=>v= .bool (fe2 (x,x2) (y,y2))/\Fr [] h h':=by
 apply calls60
 unfold S60
 intro h1 h2
 have f2:Fr [] h h2:=(Fr.push h _).pushr _
 clear_value h2
 refine callX_ofR [] c61 (by simp) (fun _ _ r=>r.2) ?_
 rintro v h3 ⟨rfl,f3⟩
 refine⟨_,rfl,cnd_b (fun q=>?_) fun q=>⟨by unfold fe2;rw[q];rfl,f2.trans f3⟩⟩
 refine callX_ofR [] c61 (by simp) (fun _ _ r=>r.2) ?_
 rintro v h4 ⟨rfl,f4⟩
 exact⟨_,rfl,by unfold fe2;rw[q];rfl,(f2.trans f3).trans f4⟩
def eqL {α:Type} (f:α->α->Bool) (xs ys:List α):Bool:=decide (xs.length=ys.length)&&(xs.zip ys).all fun p=>f p.1 p.2
theorem eqL_len {α:Type} {f:α->α->Bool} {xs ys:List α} (h:xs.length≠ys.length):eqL f xs ys=false:=by unfold eqL;rw[decide_eq_false h];rfl
theorem eqL_no {α:Type} {f:α->α->Bool} {xs ys:List α} {k:Nat} {x y:α} (hx:xs[k]? =some x) (hy:ys[k]? =some y) (h:f x y=false):eqL f xs ys=false:=by
 unfold eqL
 have:((xs.zip ys).all fun p=>f p.1 p.2)=false:=by
  rw[List.all_eq_false]
  refine⟨(x,y),List.mem_of_getElem? (i:=k) ?_,by simp[h]⟩
  rw[List.getElem?_zip_eq_some];exact⟨hx,hy⟩
 rw[this,Bool.and_false]
theorem eqL_step {α:Type} {f:α->α->Bool} {xs ys:List α} {k:Nat} {x y:α} (hx:xs[k]? =some x) (hy:ys[k]? =some y) (h:f x y=true) (ha:((xs.zip ys).take k).all (fun p=>f p.1 p.2)=true):
  ((xs.zip ys).take (k+1)).all (fun p=>f p.1 p.2)=true:=by
 have:(xs.zip ys)[k]? =some (x,y):=by rw[List.getElem?_zip_eq_some];exact⟨hx,hy⟩
 rw[List.take_add_one,this]
 simp only[List.all_append,ha,Bool.true_and,Option.toList,List.all_cons,List.all_nil,Bool.and_true]
 exact h
theorem eqL_yes {α:Type} {f:α->α->Bool} {xs ys:List α} {k:Nat} (hl:xs.length=ys.length) (hk:xs.length<=k) (ha:((xs.zip ys).take k).all (fun p=>f p.1 p.2)=true):eqL f xs ys=true:=by
 unfold eqL
 rw[decide_eq_true hl,Bool.true_and]
 rwa[List.take_of_length_le (by rw[List.length_zip];omega)]at ha
theorem eqL_eq {α:Type} [DecidableEq α] (xs ys:List α):eqL (fun x y=>decide (x=y)) xs ys=decide (xs=ys):=by
 by_cases hl:xs.length=ys.length
 ·by_cases he:xs=ys
  ·subst he
   rw[decide_eq_true rfl]
   unfold eqL
   simp
   intro a b h
   have:=List.mem_iff_getElem?.1 h
   obtain⟨i,hi⟩:=this
   rw[List.getElem?_zip_eq_some]at hi
   have:=hi.1.symm.trans hi.2
   exact Option.some.inj this
  ·rw [decide_eq_false he]
   rw[<-Bool.not_eq_true]
   intro h
   unfold eqL at h
   simp only[Bool.and_eq_true,List.all_eq_true,decide_eq_true_eq]at h
   refine he (List.ext_getElem? fun i=>?_)
   by_cases hi:i<xs.length
   ·have h1:xs[i]? =some xs[i]:=List.getElem?_eq_getElem hi
    have h2:ys[i]? =some ys[i]:=List.getElem?_eq_getElem (by omega)
    have:=h.2 (xs[i],ys[i]) (List.mem_of_getElem? (i:=i) (by rw[List.getElem?_zip_eq_some];exact⟨h1,h2⟩))
    rw[h1,h2];exact congrArg some this
   ·rw [List.getElem?_eq_none (by omega),List.getElem?_eq_none (by omega)]
 ·rw [eqL_len hl,decide_eq_false (fun e=>hl (by rw[e]))]
theorem strEqK (s t:ByteArray):(s.toList==t.toList)=decide (s=t):=by
 rw[Lib.toList_data,Lib.toList_data]
 by_cases h:s=t
 ·subst h;simp
 ·rw [decide_eq_false h]
  rw[beq_eq_false_iff_ne]
  intro e
  exact h (ByteArray.ext (Array.ext' e))
theorem ok63' {xs ys:List ByteArray} (hx:xs.length<=9223372036854775807) {R:Bool->Prop} (r:R (decide (xs=ys))):Ok63 xs ys R:=by
 apply ok63
 unfold T63
 rw[<-eqL_eq]at r
 refine cnd_ne (fun h=>?_) fun h=>?_
 ·rw [eqL_len (by omega)]at r;exact r
 refine⟨fun i=>∃k:Nat,i=k/\k<=xs.length/\((xs.zip ys).take k).all (fun p=>decide (p.1=p.2))=true,fun i=>((xs.length:Int)-i).toNat,⟨0,rfl,by omega,by simp⟩,?_⟩
 rintro _ ⟨k,rfl,hk,ha⟩
 refine cnd_dec (fun hlt=>⟨by omega,hlt,fun x hx=>⟨by omega,by omega,fun y hy=>?_⟩⟩) fun hlt=>?_
 ·have hx:xs[k]? =some x:=by simpa using hx
  have hy:ys[k]? =some y:=by simpa using hy
  rw[strEqK]
  refine cnd_not (fun q=>?_) fun q=>?_
  ·rw [eqL_no (f:=fun x y=>decide (x=y)) hx hy q]at r;exact r
  ·rw [wr (by omega) (by omega)]
   exact⟨⟨k+1,by simp,by omega,eqL_step (f:=fun x y=>decide (x=y)) hx hy q ha⟩,by dsimp only;omega⟩
 ·rw [eqL_yes (f:=fun x y=>decide (x=y)) (by omega) (show xs.length<=k by omega) ha]at r;exact r
theorem ok113' {xs ys:List (Int × Int)} (hx:xs.length<=9223372036854775807) {R:Bool->Prop} (r:R (decide (xs=ys))):Ok113 xs ys R:=by
 apply ok113
 unfold T113
 rw[<-eqL_eq]at r
 refine cnd_ne (fun h=>?_) fun h=>?_
 ·rw [eqL_len (by omega)]at r;exact r
 refine⟨fun i=>∃k:Nat,i=k/\k<=xs.length/\((xs.zip ys).take k).all (fun p=>decide (p.1=p.2))=true,fun i=>((xs.length:Int)-i).toNat,⟨0,rfl,by omega,by simp⟩,?_⟩
 rintro _ ⟨k,rfl,hk,ha⟩
 refine cnd_dec (fun hlt=>⟨by omega,hlt,fun x hx=>⟨by omega,by omega,fun y hy=>?_⟩⟩) fun hlt=>?_
 ·have hx:xs[k]? =some x:=by simpa using hx
  have hy:ys[k]? =some y:=by simpa using hy
  have e:((x.1==y.1)&&(x.2==y.2))=decide (x=y):=by
   rw[Bool.eq_iff_iff];simp[Prod.ext_iff]
  rw[e]
  refine cnd_not (fun q=>?_) fun q=>?_
  ·rw [eqL_no (f:=fun x y=>decide (x=y)) hx hy q]at r;exact r
  ·rw [wr (by omega) (by omega)]
   exact⟨⟨k+1,by simp,by omega,eqL_step (f:=fun x y=>decide (x=y)) hx hy q ha⟩,by dsimp only;omega⟩
 ·rw [eqL_yes (f:=fun x y=>decide (x=y)) (by omega) (show xs.length<=k by omega) ha]at r;exact r
theorem ok62' {a b:Int} {xs ys:List (Int × Int)} (hx:xs.length<=9223372036854775807) {R:Bool->Prop} (r:R (decide (a=b)&&decide (xs=ys))):Ok62 a xs b ys R:=by
 apply ok62
 unfold T62
 refine cnd_eq (fun h=>ok113' hx ?_) fun h=>?_
 ·rw [decide_eq_true h,Bool.true_and]at r;exact r
 ·rw [decide_eq_false h,Bool.false_and]at r;exact r
section
variable {h:Heap} {aX aY:Option Addr} {nX cX nY cY:Nat}
theorem c65 {xs ys:List Nat} (H:Hp h [Ck.vw eF aX nX cX xs,Ck.vw eF aY nY cY ys]) (hx:xs.length<=9223372036854775806):
  CallsH Tryz.prog 65 #[.slice aX nX cX,.slice aY nY cY,.func (.func 61) #[] #[]] h fun v h'=>v= .bool (eqL fe xs ys)/\Fr [] h h':=by
 apply calls65
 unfold S65
 have Q:=Sq.start H
 have l1:=Q.sy.lenV 0 rfl
 have l2:=Q.sy.lenV 1 rfl
 refine cnd_ne (fun q=>⟨by rw[eqL_len (by omega)],Fr.refl _ _⟩) fun q=>?_
 refine⟨fun lz h'=>∃k:Nat,lz=[.int .i64 (k:Int)]/\k<=xs.length/\((xs.zip ys).take k).all (fun p=>fe p.1 p.2)=true/\Fr [] h h',fun lz _=>match lz with | [.int _ i]=>((xs.length:Int)-i).toNat | _=>0,⟨0,rfl,by omega,by simp,Fr.refl _ _⟩,?_⟩
 rintro x h1 ⟨k,hk0,hk,ha,f1⟩
 obtain rfl:x=(k:Int):=by simpa using hk0
 have Q1:=Q.gr f1
 refine cnd_dec (fun hlt=>?_) fun hlt=>⟨by rw[eqL_yes (by omega) (show xs.length<=k by omega) ha],f1⟩
 obtain⟨b1,o1,e1,_,x,hx⟩:=Q1.sy.atV 0 rfl (i:=(k:Int)) (by omega) (by omega)
 obtain⟨b2,o2,e2,_,y,hy⟩:=Q1.sy.atV 1 rfl (i:=(k:Int)) (by omega) (by omega)
 refine⟨b1,o1,e1,by omega,by omega,x,Q1.sy.cellV 0 rfl e1 (i:=k) (t:=0) hx rfl,b2,o2,e2,by omega,by omega,y,Q1.sy.cellV 1 rfl e2 (i:=k) (t:=0) hy rfl,?_⟩
 show callX _ _ _ _ _ _
 refine callX_ofR [] c61 (by simp) (fun _ _ r=>r.2) ?_
 rintro v h2 ⟨rfl,f2⟩
 refine⟨_,rfl,cnd_not (fun q1=>⟨by rw[eqL_no hx hy q1],f1.trans f2⟩) fun q1=>?_⟩
 rw[wr (by omega) (by omega)]
 exact⟨⟨k+1,by simp,by omega,eqL_step hx hy q1 ha,f1.trans f2⟩,by dsimp only;omega⟩
theorem c64 {xs ys:List (Nat × Nat)} (H:Hp h [Ck.vw eFF aX nX cX xs,Ck.vw eFF aY nY cY ys]) (hx:xs.length<=9223372036854775806):
  CallsH Tryz.prog 64 #[.slice aX nX cX,.slice aY nY cY,.func (.func 60) #[] #[]] h fun v h'=>v= .bool (eqL fe2 xs ys)/\Fr [] h h':=by
 apply calls64
 unfold S64
 have Q:=Sq.start H
 have l1:=Q.sy.lenV 0 rfl
 have l2:=Q.sy.lenV 1 rfl
 refine cnd_ne (fun q=>⟨by rw[eqL_len (by omega)],Fr.refl _ _⟩) fun q=>?_
 refine⟨fun lz h'=>∃k:Nat,lz=[.int .i64 (k:Int)]/\k<=xs.length/\((xs.zip ys).take k).all (fun p=>fe2 p.1 p.2)=true/\Fr [] h h',fun lz _=>match lz with | [.int _ i]=>((xs.length:Int)-i).toNat | _=>0,⟨0,rfl,by omega,by simp,Fr.refl _ _⟩,?_⟩
 rintro x h1 ⟨k,hk0,hk,ha,f1⟩
 obtain rfl:x=(k:Int):=by simpa using hk0
 have Q1:=Q.gr f1
 refine cnd_dec (fun hlt=>?_) fun hlt=>⟨by rw[eqL_yes (by omega) (show xs.length<=k by omega) ha],f1⟩
 obtain⟨b1,o1,e1,_,x,hx⟩:=Q1.sy.atV 0 rfl (i:=(k:Int)) (by omega) (by omega)
 refine⟨b1,o1,e1,by omega,by omega,x.1,Q1.sy.cellV 0 rfl e1 (i:=k) (t:=0) hx rfl,x.2,Q1.sy.cellV 0 rfl e1 (i:=k) (t:=1) hx rfl,?_⟩
 intro h2 h3
 have f3:Fr [] h1 h3:=((Fr.push h1 _).hsetL (Nat.le_refl _)).hsetL (Nat.le_refl _)
 have Q3:=Q1.gr f3
 have s3:h1.size<h3.size:=by simp[h3,h2]
 clear_value h3
 obtain⟨b2,o2,e2,_,y,hy⟩:=Q3.sy.atV 1 rfl (i:=(k:Int)) (by omega) (by omega)
 refine⟨b2,o2,e2,by omega,by omega,y.1,Q3.sy.cellV 1 rfl e2 (i:=k) (t:=0) hy rfl,y.2,Q3.sy.cellV 1 rfl e2 (i:=k) (t:=1) hy rfl,?_⟩
 intro h4 h5
 have f5:Fr [] h1 h5:=((f3.pushr _).hsetL (by omega)).hsetL (by omega)
 clear_value h5
 show callX _ _ _ _ _ _
 refine callX_ofR [] (c60 (x:=x.1) (x2:=x.2) (y:=y.1) (y2:=y.2)) (by simp) (fun _ _ r=>r.2) ?_
 rintro v h6 ⟨rfl,f6⟩
 refine⟨_,rfl,cnd_not (fun q1=>⟨by rw[eqL_no hx hy q1],(f1.trans f5).trans f6⟩) fun q1=>?_⟩
 rw[wr (by omega) (by omega)]
 exact⟨⟨k+1,by simp,by omega,eqL_step hx hy q1 ha,(f1.trans f5).trans f6⟩,by dsimp only;omega⟩
end
structure MD where
 n:Int
 dir:Bool
 es:List (Int × Int)
 ls:List ByteArray
 ss:List (Nat × Nat)
 ws:List Nat
def sameB (a b:MD):Bool:=(decide (a.n=b.n)&&decide (a.es=b.es))&&((a.dir==b.dir)&&(decide (a.ls=b.ls)&&(eqL fe2 a.ss b.ss&&eqL fe a.ws b.ws)))
structure MDs where
 aE:Option Addr
 nE:Nat
 cE:Nat
 aL:Option Addr
 nL:Nat
 cL:Nat
 aS:Option Addr
 nS:Nat
 cS:Nat
 aW:Option Addr
 nW:Nat
 cW:Nat
def MD.vw (d:MD) (s:MDs):List Ck:=[Ck.vw eP s.aE s.nE s.cE d.es,Ck.vw eS s.aL s.nL s.cL d.ls,Ck.vw eFF s.aS s.nS s.cS d.ss,Ck.vw eF s.aW s.nW s.cW d.ws]
def MD.v (d:MD) (s:MDs):Value:=.agg #[.int .i64 d.n,.slice s.aE s.nE s.cE,.bool d.dir,.slice s.aL s.nL s.cL,.slice s.aS s.nS s.cS,.slice s.aW s.nW s.cW]
theorem ok24 {a b:MD} {s t:MDs} {h:Heap} (H:Hp h (a.vw s++b.vw t)) (hl:a.es.length<=9223372036854775806/\a.ls.length<=9223372036854775806/\a.ss.length<=9223372036854775806/\a.ws.length<=9223372036854775806):
  CallsH Tryz.prog 24 #[a.v s,b.v t] h fun v h'=>v= .bool (sameB a b)/\Fr [] h h':=by
 apply calls24
 unfold S24
 intro h1 h2 K
 have f2:Fr [] h h2:=(Fr.push h _).pushr _
 have Q:=(Sq.start H).gr f2
 clear_value h2
 refine callX_ofR (R:=fun v h'=>v= .bool (decide (a.n=b.n)&&decide (a.es=b.es))/\Fr [] h2 h') [] ?_ (by simp) (fun _ _ r=>r.2) ?_
 ·exact (ok62' (R:=fun r=>r=(decide (a.n=b.n)&&decide (a.es=b.es))) (by omega) rfl h2 _ _ _ _ _ _ (Q.pick [0,4] rfl).hp).mono fun v h' ⟨r,Y,e,q⟩=>⟨by rw[e,q],Y.fr⟩
 rintro v h3 ⟨rfl,f3⟩
 have F3:=f2.trans f3
 have Q3:=Q.gr f3
 refine⟨_,rfl,cnd_b (fun q1=>?_) fun q1=>⟨by unfold sameB;rw[q1];rfl,F3⟩⟩
 refine cnd_b (fun q2=>?_) fun q2=>⟨by unfold sameB;rw[q2];simp,F3⟩
 refine callX_ofR (R:=fun v h'=>v= .bool (decide (a.ls=b.ls))/\Fr [] h3 h') [] ?_ (by simp) (fun _ _ r=>r.2) ?_
 ·exact (ok63' (R:=fun r=>r=decide (a.ls=b.ls)) (by omega) rfl h3 _ _ _ _ _ _ (Q3.pick [1,5] rfl).hp).mono fun v h' ⟨r,Y,e,q⟩=>⟨by rw[e,q],Y.fr⟩
 rintro v h4 ⟨rfl,f4⟩
 have F4:=F3.trans f4
 have Q4:=Q3.gr f4
 refine⟨_,rfl,cnd_b (fun q3=>?_) fun q3=>⟨by unfold sameB;rw[q3];simp,F4⟩⟩
 refine callX_ofR [] (c64 (Q4.pick [2,6] rfl).hp (by omega)) (by simp) (fun _ _ r=>r.2) ?_
 rintro v h5 ⟨rfl,f5⟩
 have F5:=F4.trans f5
 have Q5:=Q4.gr f5
 refine⟨_,rfl,cnd_b (fun q4=>?_) fun q4=>⟨by unfold sameB;rw[q4];simp,F5⟩⟩
 refine callX_ofR [] (c65 (Q5.pick [3,7] rfl).hp (by omega)) (by simp) (fun _ _ r=>r.2) ?_
 rintro v h6 ⟨rfl,f6⟩
 exact⟨_,rfl,by unfold sameB;rw[q1,q2,q3,q4];simp,F5.trans f6⟩
end Go.Proofs.YtlflalecmhgmjaaGreatDoor.N
namespace Go.Proofs.YtlflalecmhgmjaaGreatDoor.N
open Go.X Go.Proofs.YtlflalecmhgmjaaGreatDoor
set_option maxRecDepth 100000
def nanC :Nat:=9221120237041090561
def fop (r:Option Nat):Nat:=r.getD nanC
def mulM (a b:Nat):Nat:=fop (F64.mul a b)
def divM (a b:Nat):Nat:=fop (F64.div a b)
def absM (x:Nat):Nat:=(bits .andNot .u64 (x:Int) (9223372036854775808:Int)).toNat
theorem f_least :F64.leastPlace= -1074:=by decide
theorem f_binade :F64.binade=2^52:=by decide
theorem f_inf :F64.infRung=2047*2^52:=by decide
theorem f_sign :F64.signWeight=2^63:=by decide
theorem absM_eq (x:Nat):absM x=x % 2^63:=by
 unfold absM bits
 have hk:IntKind.u64.bits=64:=rfl
 have e1:(BitVec.ofInt IntKind.u64.bits (x:Int)&&& ~~~(BitVec.ofInt IntKind.u64.bits (9223372036854775808:Int))).toNat=x % 2^63:=by
  rw[BitVec.toNat_and]
  have h1:(BitVec.ofInt IntKind.u64.bits (x:Int)).toNat=x % 2^64:=by
   rw[BitVec.toNat_ofInt,hk];omega
  have h2:(~~~(BitVec.ofInt IntKind.u64.bits (9223372036854775808:Int))).toNat=2^63-1:=by decide
  rw[h1,h2,Nat.and_two_pow_sub_one_eq_mod]
  omega
 have e2:(BitVec.ofInt IntKind.u64.bits (x:Int)&&& ~~~(BitVec.ofInt IntKind.u64.bits (9223372036854775808:Int))).toNat<2^63:=by rw[e1];exact Nat.mod_lt _ (by decide)
 simp only
 rw[e1]at*
 unfold IntKind.wrap
 have h3:IntKind.u64.signed=false:=rfl
 simp[hk,h3]
 omega
theorem read_abs (x:Nat):F64.read (absM x)=match F64.read x with
  | .number _ m i=>.number false m i
  | .infinity _=>.infinity false
  | .nan _ t=>.nan false t:=by
 have hs:F64.signWeight=2^63:=by decide
 rw[absM_eq]
 unfold Ieee.Format.read
 simp only[hs]
 have h1:x % 2^63/2^63 % 2=0:=by omega
 have h2:x % 2^63 % 2^63=x % 2^63:=by omega
 rw[h1,h2]
 simp only[show((0:Nat)==1)=false from rfl]
 split
 ·rfl
 ·split
  ·rfl
  ·split<;>rfl
theorem absM_nan (x:Nat):isNaN (absM x)=isNaN x:=by
 have h:isNaN (absM x)=(F64.read (absM x)).isNaN:=rfl
 have h':isNaN x=(F64.read x).isNaN:=rfl
 rw[h,h',read_abs]
 cases F64.read x<;>rfl
theorem read_mag {x:Nat} {s:Bool} {m:Nat} {i:Int} (h:F64.read x= .number s m i):m<2^53:=by
 have hb:F64.binade=2^52:=by decide
 have hs:F64.signWeight=2^63:=by decide
 unfold Ieee.Format.read at h
 simp only[hb,hs]at h
 split at h
 ·cases h;omega
 ·split at h
  ·cases h
   have:x % 2^63 % 2^52<2^52:=Nat.mod_lt _ (by decide)
   omega
  ·split at h<;>cases h
theorem read_place {x:Nat} {s:Bool} {m:Nat} {i:Int} (h:F64.read x= .number s m i): -1074<=i/\i<=971:=by
 unfold Ieee.Format.read at h
 simp only[f_binade,f_sign,f_least,f_inf]at h
 split at h
 ·cases h;omega
 ·split at h
  ·rename_i q
   cases h
   have:x % 2^63/2^52<2047:=Nat.div_lt_of_lt_mul (by omega)
   omega
  ·split at h<;>cases h
def bigE :Nat:=3000
theorem bigE_ge :2100<=bigE:=by decide
def keyD :Ieee.Datum->Int
 | .number s m i=>Ieee.signed s m (i+1074).toNat
 | .infinity s=>if s then-(2^bigE)else 2^bigE
 | .nan _ _=>0
def key (x:Nat):Int:=keyD (F64.read x)
theorem signed_mul (s:Bool) (m a b:Nat):Ieee.signed s m (a+b)=Ieee.signed s m a*((2^b:Nat):Int):=by
 unfold Ieee.signed
 simp only[Nat.shiftLeft_eq,Nat.pow_add]
 cases s<;>simp[Int.mul_assoc,Int.neg_mul]
theorem compare_mul (x y:Int) (p:Nat) (hp:0<p):compare (x*p) (y*p)=compare x y:=by
 have hp':(0:Int)<p:=by omega
 rcases Int.lt_trichotomy x y with h | h | h
 ·rw [Std.compare_eq_lt.2 h,Std.compare_eq_lt.2 (Int.mul_lt_mul_of_pos_right h hp')]
 ·rw [h,Std.compare_self,Std.compare_self]
 ·rw [Std.compare_eq_gt.2 h,Std.compare_eq_gt.2 (Int.mul_lt_mul_of_pos_right h hp')]
theorem shift_lt {m a:Nat} (h1:m<2^53) (h2:a<=2045):m*2^a<2^bigE:=by
 have h3:m*2^a<2^53*2^a:=Nat.mul_lt_mul_of_pos_right h1 (Nat.pow_pos (by decide))
 rw[<-Nat.pow_add]at h3
 exact Nat.lt_of_lt_of_le h3 (Nat.pow_le_pow_right (by decide) (by have:=bigE_ge;omega))
theorem key_bound {x:Nat} {s:Bool} {m:Nat} {i:Int} (h:F64.read x= .number s m i): -(2^bigE)<Ieee.signed s m (i+1074).toNat/\Ieee.signed s m (i+1074).toNat<2^bigE:=by
 have h1:=read_mag h
 have h2:=read_place h
 have h3:m <<< (i+1074).toNat<2^bigE:=by
  rw[Nat.shiftLeft_eq]
  exact shift_lt h1 (Nat.le_of_lt_succ (by omega))
 have h5:((m <<< (i+1074).toNat:Nat):Int)<2^bigE:=by
  have:=Int.ofNat_lt.2 h3
  rw[Int.natCast_pow]at this
  exact this
 have h6:(0:Int)<=((m <<< (i+1074).toNat:Nat):Int):=Int.natCast_nonneg _
 unfold Ieee.signed
 generalize ((m <<< (i+1074).toNat:Nat):Int)=z at*
 generalize (2:Int)^bigE=w at*
 cases s
 ·simp only[Bool.false_eq_true,if_false];omega
 ·simp only[if_true];omega
theorem big_pos :(0:Int)<2^bigE:=Int.pow_pos (by decide)
theorem order_key {a b:Nat} (ha:isNaN a=false) (hb:isNaN b=false):F64.order a b=some (compare (key a) (key b)):=by
 have ha':(F64.read a).isNaN=false:=ha
 have hb':(F64.read b).isNaN=false:=hb
 have hP:=big_pos
 unfold Ieee.Format.order key
 cases hra:F64.read a with
 | nan s t=>rw[hra]at ha';simp[Ieee.Datum.isNaN]at ha'
 | infinity s=>
  cases hrb:F64.read b with
  | nan t u=>rw[hrb]at hb';simp[Ieee.Datum.isNaN]at hb'
  | infinity t=>
   simp only[Ieee.Datum.order,keyD]
   generalize (2:Int)^bigE=w at*
   cases s<;>cases t
   ·simp [Std.compare_self]
   ·simp only[Bool.false_eq_true,if_false,if_true];rw[Std.compare_eq_gt.2 (show-w<w by omega)];rfl
   ·simp only[Bool.false_eq_true,if_false,if_true];rw[Std.compare_eq_lt.2 (show-w<w by omega)];rfl
   ·simp [Std.compare_self]
  | number t n j=>
   have kb:=key_bound hrb
   simp only[Ieee.Datum.order,keyD]
   generalize (2:Int)^bigE=w at*
   cases s
   ·simp only[Bool.false_eq_true,if_false];rw[Std.compare_eq_gt.2 kb.2]
   ·simp only[if_true];rw[Std.compare_eq_lt.2 kb.1]
 | number s m i=>
  have ka:=key_bound hra
  have pa:=read_place hra
  cases hrb:F64.read b with
  | nan t u=>rw[hrb]at hb';simp[Ieee.Datum.isNaN]at hb'
  | infinity t=>
   simp only[Ieee.Datum.order,keyD]
   generalize (2:Int)^bigE=w at*
   cases t
   ·simp only[Bool.false_eq_true,if_false];rw[Std.compare_eq_lt.2 ka.2]
   ·simp only[if_true];rw[Std.compare_eq_gt.2 ka.1]
  | number t n j=>
   have pb:=read_place hrb
   simp only[Ieee.Datum.order,keyD]
   have e1:(i+1074).toNat=(i-min i j).toNat+(min i j+1074).toNat:=by omega
   have e2:(j+1074).toNat=(j-min i j).toNat+(min i j+1074).toNat:=by omega
   rw[e1,e2,signed_mul,signed_mul,compare_mul _ _ _ (Nat.pow_pos (by decide))]
theorem order_gt {a b:Nat} (ha:isNaN a=false) (hb:isNaN b=false):(F64.order a b==some .gt)=decide (key b<key a):=by
 rw[order_key ha hb]
 rcases Int.lt_trichotomy (key a) (key b)with h | h | h
 ·rw [Std.compare_eq_lt.2 h];simp;omega
 ·rw [h,Std.compare_self];simp
 ·rw [Std.compare_eq_gt.2 h];simp[h]
theorem key_abs (x:Nat):key (absM x)=(key x).natAbs:=by
 unfold key
 rw[read_abs]
 cases F64.read x with
 | nan s t=>rfl
 | infinity s=>
  have hP:=big_pos
  cases s
  ·simp only[keyD,Bool.false_eq_true,if_false]
   generalize (2:Int)^bigE=w at*
   omega
  ·simp only[keyD,if_true,Bool.false_eq_true,if_false]
   generalize (2:Int)^bigE=w at*
   omega
 | number s m i=>
  cases s
  ·simp only[keyD,Ieee.signed,Bool.false_eq_true,if_false,Int.natAbs_natCast]
  ·simp only[keyD,Ieee.signed,Bool.false_eq_true,if_false,if_true,Int.natAbs_neg,Int.natAbs_natCast]
theorem cut_even (s:Bool) (n d:Nat):Ieee.Toward.even.cut s n d=Ieee.Toward.even.cut false n d:=rfl
def rungOf (m:Nat) (i:Int):Nat:=
 if m=0 then 0 else
 min ((max (i+m.log2-F64.fractionBits) F64.leastPlace-F64.leastPlace).toNat*F64.binade+Ieee.Toward.even.cut false (m <<< (i-max (i+m.log2-F64.fractionBits) F64.leastPlace).toNat) (max (i+m.log2-F64.fractionBits) F64.leastPlace-i).toNat) F64.infRung
theorem nearest_eq (s:Bool) (m:Nat) (i:Int):F64.nearest s m i=F64.word s (rungOf m i):=by
 unfold Ieee.Format.nearest rungOf
 split
 ·rfl
 ·simp only[cut_even s]
theorem rungOf_le (m:Nat) (i:Int):rungOf m i<=2047*2^52:=by
 unfold rungOf
 rw[f_inf]
 split
 ·exact Nat.zero_le _
 ·exact Nat.min_le_right _ _
theorem word_false (r:Nat):F64.word false r=r:=by
 unfold Ieee.Format.word;simp
theorem nearest_word (s:Bool) (m:Nat) (i:Int):∃r,r<=2047*2^52/\F64.nearest s m i=F64.word s r/\F64.nearest false m i=r:=
 ⟨_,rungOf_le m i,nearest_eq s m i,(nearest_eq false m i).trans (word_false _)⟩
theorem signed_shift (s:Bool) (m a:Nat):Ieee.signed s m a=if s then-((m*2^a:Nat):Int)else((m*2^a:Nat):Int):=by
 unfold Ieee.signed;rw[Nat.shiftLeft_eq]
def rungVal (r:Nat):Nat:=if r<2^52 then r else(2^52+r % 2^52)*2^(r/2^52-1)
theorem read_word {s:Bool} {r:Nat} (h:r<2047*2^52):F64.read (F64.word s r)=if r<2^52 then .number s r (-1074)else .number s (2^52+r % 2^52) (-1074+(r/2^52-1:Nat)):=by
 have e1:F64.word s r/2^63 % 2=(if s then 1 else 0)/\F64.word s r % 2^63=r:=by
  unfold Ieee.Format.word
  rw[f_sign]
  cases s
  ·simp only[Bool.false_eq_true,if_false];omega
  ·simp only[if_true];omega
 unfold Ieee.Format.read
 simp only[f_sign,f_binade,f_least,f_inf]
 rw[e1.1,e1.2,if_pos h]
 cases s<;>rfl
theorem key_word {s:Bool} {r:Nat} (h:r<2047*2^52):key (F64.word s r)=(if s then-((rungVal r:Nat):Int)else((rungVal r:Nat):Int))/\isNaN (F64.word s r)=false:=by
 have hN:isNaN (F64.word s r)=(F64.read (F64.word s r)).isNaN:=rfl
 unfold key
 rw[hN,read_word h]
 unfold rungVal
 split
 ·refine ⟨?_,rfl⟩
  simp only[keyD,signed_shift]
  simp
 ·refine ⟨?_,rfl⟩
  simp only[keyD,signed_shift]
  rw[show(-1074+((r/2^52-1:Nat):Int)+1074).toNat=r/2^52-1 by omega]
theorem log2_mul_pow {m k:Nat} (h:m≠0):(m*2^k).log2=m.log2+k:=by
 have h1:m*2^k≠0:=Nat.ne_of_gt (Nat.mul_pos (by omega) (Nat.pow_pos (by decide)))
 apply (Nat.log2_eq_iff h1).2
 have h2:=(Nat.log2_eq_iff h).1 rfl
 rw[Nat.pow_add,show m.log2+k+1=(m.log2+1)+k by omega,Nat.pow_add]
 exact⟨Nat.mul_le_mul_right _ h2.1,Nat.mul_lt_mul_of_pos_right h2.2 (Nat.pow_pos (by decide))⟩
theorem cut_exact (w:Ieee.Toward) (s:Bool) (K d:Nat):w.cut s (K*2^d) d=K:=by
 unfold Ieee.Toward.cut
 by_cases hK:K=0
 ·subst hK
  simp only[Nat.zero_mul,Nat.zero_div,Nat.zero_mod]
  have hg:0<1 <<< min d (Nat.log2 0+2):=by rw[Nat.shiftLeft_eq];exact Nat.mul_pos (by decide) (Nat.pow_pos (by decide))
  generalize 1 <<< min d (Nat.log2 0+2)=g at*
  cases w<;>simp
 ·rw [log2_mul_pow hK,show min d (K.log2+d+2)=d by omega,Nat.shiftLeft_eq,Nat.one_mul]
  have hg:0<2^d:=Nat.pow_pos (by decide)
  dsimp only
  rw[Nat.mul_div_cancel _ hg,Nat.mul_mod_left]
  generalize 2^d=g at*
  cases w<;>simp
  omega
theorem key_exact {s:Bool} {m k:Nat} {i:Int} (hm:m<2^53) (hi: -1074<=i) (hi2:i<=971):key (F64.nearest s (m*2^k) (i-k))=Ieee.signed s m (i+1074).toNat/\isNaN (F64.nearest s (m*2^k) (i-k))=false:=by
 rw[nearest_eq]
 by_cases hm0:m=0
 ·subst hm0
  have e:rungOf (0*2^k) (i-k)=0:=by unfold rungOf;simp
  rw[e]
  have:=key_word (s:=s) (r:=0) (by omega)
  refine⟨this.1.trans ?_,this.2⟩
  rw[signed_shift];simp[rungVal]
 have hM:m*2^k≠0:=Nat.ne_of_gt (Nat.mul_pos (by omega) (Nat.pow_pos (by decide)))
 have hlog:=log2_mul_pow (k:=k) hm0
 have hl2:=(Nat.log2_eq_iff hm0).1 rfl
 have hl53:m.log2<53:=(Nat.log2_lt hm0).2 hm
 obtain⟨la,hla⟩:∃la:Int,la=max (i-k+((m*2^k).log2:Int)-F64.fractionBits) F64.leastPlace:=⟨_,rfl⟩
 have hla2:la=max (i+(m.log2:Int)-52) (-1074):=by
  rw[hla,hlog,f_least,show F64.fractionBits=52 from rfl];omega
 have hle:la<=i:=by omega
 have kept:Ieee.Toward.even.cut false ((m*2^k) <<< (i-k-la).toNat) (la-(i-k)).toNat=m*2^(i-la).toNat:=by
  rw[Nat.shiftLeft_eq,Nat.mul_assoc,<-Nat.pow_add]
  have e:k+(i-k-la).toNat=(i-la).toNat+(la-(i-k)).toNat:=by omega
  rw[e,Nat.pow_add,<-Nat.mul_assoc]
  exact cut_exact _ _ _ _
 have er:rungOf (m*2^k) (i-k)=min ((la+1074).toNat*2^52+m*2^(i-la).toNat) (2047*2^52):=by
  unfold rungOf
  rw[if_neg hM,<-hla,kept,f_inf,f_binade,f_least]
  rw[show(la- -1074).toNat=(la+1074).toNat by omega]
 have hK1:m*2^(i-la).toNat<2^53:=by
  calc m*2^(i-la).toNat<2^(m.log2+1)*2^(i-la).toNat:=Nat.mul_lt_mul_of_pos_right hl2.2 (Nat.pow_pos (by decide))
   _=2^(m.log2+1+(i-la).toNat):=(Nat.pow_add _ _ _).symm
   _<=2^53:=Nat.pow_le_pow_right (by decide) (by omega)
 have hK2: -1074<la->2^52<=m*2^(i-la).toNat:=fun q=>by
  calc 2^52<=2^(m.log2+(i-la).toNat):=Nat.pow_le_pow_right (by decide) (by omega)
   _=2^m.log2*2^(i-la).toNat:=Nat.pow_add _ _ _
   _<=m*2^(i-la).toNat:=Nat.mul_le_mul_right _ hl2.1
 have ev:m*2^(i+1074).toNat=m*2^(i-la).toNat*2^(la+1074).toNat:=by
  rw[Nat.mul_assoc,<-Nat.pow_add,show(i-la).toNat+(la+1074).toNat=(i+1074).toNat by omega]
 have hl3:(la+1074).toNat<=2045:=by omega
 have hl4: -1074<=la:=by omega
 clear kept hla hla2
 generalize m*2^(i-la).toNat=K at*
 have hr:(la+1074).toNat*2^52+K<2047*2^52:=by omega
 rw[er,Nat.min_eq_left (by omega)]
 have hk:=key_word (s:=s) hr
 refine⟨hk.1.trans ?_,hk.2⟩
 rw[signed_shift,ev]
 have hv:rungVal ((la+1074).toNat*2^52+K)=K*2^(la+1074).toNat:=by
  unfold rungVal
  by_cases q: -1074<la
  ·have:=hK2 q
   rw[if_neg (by omega),show((la+1074).toNat*2^52+K) % 2^52=K-2^52 by omega,show((la+1074).toNat*2^52+K)/2^52-1=(la+1074).toNat by omega,show 2^52+(K-2^52)=K by omega]
  ·rw [show(la+1074).toNat=0 by omega]
   simp only[Nat.zero_mul,Nat.zero_add,Nat.pow_zero,Nat.mul_one]
   split
   ·rfl
   ·rw [show K/2^52-1=0 by omega,Nat.pow_zero,Nat.mul_one];omega
 rw[hv]
def negM (x:Nat):Nat:=Op.negFloat .f64 x
theorem xor_par (q:Nat):((q ^^^ 1) % 2==1)= !(q % 2==1):=by
 have:=Nat.xor_mod_two_pow (a:=q) (b:=1) (n:=1)
 rw[Nat.pow_one]at this
 rw[this]
 rcases Nat.mod_two_eq_zero_or_one q with h | h
 ·rw [h];rfl
 ·rw [h];rfl
theorem read_neg (x:Nat):F64.read (negM x)=(F64.read x).opposite:=by
 have e0:negM x=x ^^^ 2^63:=rfl
 have h1:(x ^^^ 2^63) % 2^63=x % 2^63:=by
  rw[Nat.xor_mod_two_pow,Nat.mod_self,Nat.xor_zero]
 have h2:(x ^^^ 2^63)/2^63=x/2^63 ^^^ 1:=by
  rw[Nat.xor_div_two_pow]
 rw[e0]
 unfold Ieee.Format.read
 simp only[f_binade,f_sign,f_least,f_inf]
 rw[h1,h2,xor_par]
 split
 ·rfl
 ·split
  ·rfl
  ·split<;>rfl
theorem signed_neg (s:Bool) (m a:Nat):Ieee.signed (!s) m a= -Ieee.signed s m a:=by cases s<;>simp[Ieee.signed]
theorem key_neg (x:Nat):key (negM x)= -key x:=by
 unfold key
 rw[read_neg]
 cases F64.read x with
 | nan s t=>rfl
 | infinity s=>cases s<;>simp[Ieee.Datum.opposite,keyD]
 | number s m i=>exact signed_neg s m _
theorem nan_neg (x:Nat):isNaN (negM x)=isNaN x:=by
 have a:isNaN (negM x)=(F64.read (negM x)).isNaN:=rfl
 have b:isNaN x=(F64.read x).isNaN:=rfl
 rw[a,b,read_neg]
 cases F64.read x<;>rfl
theorem nn_word {s:Bool} {r:Nat} (h:r<=2047*2^52):isNaN (F64.word s r)=false:=by
 by_cases hr:r<2047*2^52
 ·exact (key_word hr).2
 ·have:r=2047*2^52:=by omega
  subst this
  cases s<;>decide
theorem nn_nearest (s:Bool) (m:Nat) (i:Int):isNaN (F64.nearest s m i)=false:=by
 obtain⟨r,hr,e,_⟩:=nearest_word s m i
 rw[e];exact nn_word hr
theorem nn_write {d:Ieee.Datum} (h:d.isNaN=false):isNaN (F64.write d)=false:=by
 cases d with
 | nan s t=>simp[Ieee.Datum.isNaN]at h
 | infinity s=>cases s<;>decide
 | number s m i=>exact nn_nearest s m i
theorem read_cases {a:Nat} (h:isNaN a=false):(∃s,F64.read a= .infinity s)\/∃s m i,F64.read a= .number s m i:=by
 unfold isNaN at h
 cases hr:F64.read a with
 | nan s t=>rw[show FloatKind.f64.format.read a= .nan s t from hr]at h;simp[Ieee.Datum.isNaN]at h
 | infinity s=>exact .inl ⟨s,rfl⟩
 | number s m i=>exact .inr ⟨s,m,i,rfl⟩
theorem mul_some {a b n:Nat} {t:Bool} {j:Int} (ha:isNaN a=false) (hb:F64.read b= .number t n j) (hn:n≠0):F64.mul a b=some (mulM a b)/\isNaN (mulM a b)=false:=by
 have:∃d,(F64.read a).product (F64.read b)=some d/\d.isNaN=false:=by
  rcases read_cases ha with⟨s,e⟩ | ⟨s,m,i,e⟩
  ·rw [e,hb];exact⟨_,if_neg hn,rfl⟩
  ·rw [e,hb];exact⟨_,rfl,rfl⟩
 obtain⟨d,e,hd⟩:=this
 have e2:F64.mul a b=some (F64.write d):=by unfold Ieee.Format.mul;rw[e];rfl
 unfold mulM;rw[e2]
 exact⟨rfl,nn_write hd⟩
theorem div_some {a b n:Nat} {t:Bool} {j:Int} (ha:isNaN a=false) (hb:F64.read b= .number t n j) (hn:n≠0):F64.div a b=some (divM a b)/\isNaN (divM a b)=false:=by
 have:∃d,Ieee.Datum.quotient (F64.fractionBits+2) (F64.read a) (F64.read b)=some d/\d.isNaN=false:=by
  rcases read_cases ha with⟨s,e⟩ | ⟨s,m,i,e⟩
  ·rw [e,hb];exact⟨_,rfl,rfl⟩
  ·rw [e,hb];exact⟨_,if_neg hn,rfl⟩
 obtain⟨d,e,hd⟩:=this
 have e2:F64.div a b=some (F64.write d):=by unfold Ieee.Format.div;rw[e];rfl
 unfold divM;rw[e2]
 exact⟨rfl,nn_write hd⟩
end Go.Proofs.YtlflalecmhgmjaaGreatDoor.N
namespace Go.Proofs.YtlflalecmhgmjaaGreatDoor.N
open Go.Proofs.YtlflalecmhgmjaaGreatDoor
open Go.X
set_option maxRecDepth 100000
set_option maxHeartbeats 2000000
def S337 (b:Bool) (h:Heap) (R:Value->Heap->Prop):Prop:=
 cnd b
  (R (.int .u64 1) h)
  (R (.int .u64 0) h)
theorem calls337 {h:Heap} {R:Value->Heap->Prop} (b:Bool) (H:S337 b h R):CallsH Tryz.prog 337 #[.bool b] h R:=by
 have e:S337 b h R=FX (envX [] 4) {loops:=[],joins:=[],blocks:=[],draws:=[]} Tryz.f337 (Tryz.f337.body.getD .skip) [.bool b] h R:=by kernel_rfl
 exact calls_of_FX (envX_ok _ _) Tryz.func337 (by kernel_rfl) (by kernel_rfl) (by kernel_rfl) (e▸H)
def Ok337 (b:Bool) (R:Int->Prop):Prop:=
 ∀(h:Heap),Hp h []->CallsH Tryz.prog 337 #[.bool b] h fun v h'=>∃(rV:Int),Sy h [] h' []/\v= .int .u64 rV/\R rV
def T337 (b:Bool) (R:Int->Prop):Prop:=
 cnd b
  (R 1)
  (R 0)
theorem ok337 {b} {R:Int->Prop} (T:T337 b R):Ok337 b R:=by
 intro h H
 have Y:Sy h [] h _:=Sy.startM H rfl
 apply calls337
 unfold S337
 unfold T337 at T
 refine cnd_imp T (fun T=>?_) (fun T=>?_)
 ·exact ⟨_,Y.pick [] rfl,rfl,T⟩
 ·exact ⟨_,Y.pick [] rfl,rfl,T⟩
end Go.Proofs.YtlflalecmhgmjaaGreatDoor.N
