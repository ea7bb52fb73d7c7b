/- A label in quotes. Conditions: none. -/
import Derived.Test.YtlflalecmhgmjaaGreatDoorKWr
import Derived.Lib.Replace
import Derived.Test.YtlflalecmhgmjaaGreatDoorWEnv
import Derived.Test.YtlflalecmhgmjaaGreatDoorYGl
import Derived.Test.YtlflalecmhgmjaaGreatDoorSRd
set_option linter.unusedVariables false
set_option linter.unusedSimpArgs false
namespace Go.Proofs.YtlflalecmhgmjaaGreatDoor.N
open Go.Proofs.YtlflalecmhgmjaaGreatDoor
open Go.X
open Go.Proofs
set_option maxRecDepth 100000
def rep1 (c:UInt8) (nw:List UInt8) (x:UInt8):List UInt8:=if x=c then nw else [x]
theorem replaceK_one (c:UInt8) (nw:List UInt8):∀s:List UInt8,Lib.replaceK [c] nw (Lib.count s [c]) s=s.flatMap (rep1 c nw)
 | []=>by rw[Lib.count_miss (by simp[Lib.index])];rfl
 | b::l=>by
  have ih:=replaceK_one c nw l
  by_cases h:b=c
  ·subst h
   have hix:Lib.index (b::l) [b]=((0:Nat):Int):=by rw[Lib.index];simp[List.isPrefixOf]
   rw[Lib.count_cons_eq,Nat.add_comm,Lib.replaceK_hit _ _ _ _ 0 hix]
   show []++nw++Lib.replaceK [b] nw (Lib.count l [b]) l=_
   rw[ih,List.flatMap_cons]
   simp[rep1]
  ·rw [Lib.count_cons_ne b c l h,List.flatMap_cons]
   have e1:rep1 c nw b=[b]:=by unfold rep1;rw[if_neg h]
   rw[e1,<-ih]
   have hp:([c]:List UInt8).isPrefixOf (b::l)=false:=by simp[List.isPrefixOf,Ne.symm h]
   have hix:Lib.index (b::l) [c]=if Lib.index l [c]== -1 then-1 else Lib.index l [c]+1:=by rw[Lib.index,hp];simp
   cases hk:Lib.count l [c]with
   | zero=>rfl
   | succ k=>
    obtain⟨i,hi⟩:=Lib.index_of_count (s:=l) (old:=[c]) (by omega)
    have hix':Lib.index (b::l) [c]=((i+1:Nat):Int):=by
     rw[hix,if_neg (fun e=>by have:=beq_iff_eq.1 e;omega),hi];omega
    rw[Lib.replaceK_hit _ _ _ _ _ hix',Lib.replaceK_hit _ _ _ _ _ hi]
    rfl
theorem replaceAll_one (c:UInt8) (nw s:List UInt8) (h: [c]≠nw):Lib.replaceAll s [c] nw=s.flatMap (rep1 c nw):=by
 unfold Lib.replaceAll Lib.replace
 rw[if_neg (by simpa using h)]
 have:Lib.replaceNum s [c] (-1)=Lib.count s [c]:=by unfold Lib.replaceNum;rw[if_pos (.inl (by decide))]
 rw[this,replaceK_one]
theorem enc_two (l:List UInt8):(l.flatMap (rep1 38 [38,97,109,112,59])).flatMap (rep1 34 [38,113,117,111,116,59])=G.enc l:=by
 unfold G.enc
 rw[List.flatMap_assoc]
 congr 1
 funext x
 unfold rep1 G.enc1
 by_cases h1:x=38
 ·subst h1;decide
 ·rw [if_neg h1,if_neg h1]
  simp only[List.flatMap_cons,List.flatMap_nil,List.append_nil]
  rfl
theorem flat_len (f:UInt8->List UInt8) (k:Nat) (hf:∀x,(f x).length<=k):∀l:List UInt8,(l.flatMap f).length<=k*l.length
 | []=>by simp
 | x::l=>by
  rw[List.flatMap_cons,List.length_append,List.length_cons,Nat.mul_succ]
  have:=flat_len f k hf l;have:=hf x;omega
theorem enc_len (l:List UInt8):(G.enc l).length<=6*l.length:=by
 refine flat_len _ 6 (fun x=>?_) l
 unfold G.enc1;split
 ·simp [G.amp]
 ·split<;>simp[G.quot]
theorem rep_len (l:List UInt8):(l.flatMap (rep1 38 [38,97,109,112,59])).length<=5*l.length:=by
 refine flat_len _ 5 (fun x=>?_) l
 unfold rep1;split<;>simp
theorem ok144 {s:ByteArray} {c:UInt8} {nw:List UInt8} {gl:GL} {h:Heap} (g:Gl gl h) (hs:s.size<=1000000) (hn:nw.length<=10) (hne: [c]≠nw):
  CallsH Tryz.prog 144 #[.string s,.string ⟨#[c]⟩,.string (G.mkB nw)] h fun v h'=>v= .string (G.mkB (s.data.toList.flatMap (rep1 c nw)))/\Fr [] h h':=by
 obtain⟨m,hm⟩:=g.ml
 refine callsH_below (fun w hw=>Go.Proofs.Tryz.strings_ReplaceAll s (⟨#[c]⟩:ByteArray) (G.mkB nw) m w (by omega) ?_ (by show 1<=1;omega) ?_) fun h' f=>⟨?_,f⟩
 ·subst hw;rw[cell_hcell];exact hm
 ·have h1:=Lib.countB_le (⟨#[c]⟩:ByteArray) (by show 1<=1;omega) s.size s (Nat.le_refl _)
  have h2:(G.mkB nw).size=nw.length:=by simp[G.mkB,ByteArray.size]
  rw[h2]
  have:=Nat.mul_le_mul h1 hn
  omega
 ·have e:(⟨#[c]⟩:ByteArray).data.toList=[c]:=rfl
  have e2:(G.mkB nw).data.toList=nw:=by simp[G.mkB]
  rw[e,e2,replaceAll_one c nw _ hne];rfl
theorem ok104 {s:ByteArray} {gl:GL} {h:Heap} (g:Gl gl h) (hs:s.size<=100000):CallsH Tryz.prog 104 #[.string s] h fun v h'=>v= .string (G.mkB (G.quo s.data.toList))/\Fr [] h h':=by
 apply calls104
 unfold S104
 refine callX_ofR (R:=fun v h'=>v= .string (G.mkB (s.data.toList.flatMap (rep1 38 [38,97,109,112,59])))/\Fr [] h h') [] (ok144 (c:=38) (nw:=[38,97,109,112,59]) g (by omega) (by decide) (by decide)) (by simp) (fun _ _ r=>r.2) ?_
 rintro v h1 ⟨rfl,f1⟩
 have hs0:s.data.toList.length=s.size:=rfl
 have e1:=rep_len s.data.toList
 have sz:∀l:List UInt8,(G.mkB l).size=l.length:=fun l=>by simp[G.mkB,ByteArray.size]
 have dt:∀l:List UInt8,(G.mkB l).data.toList=l:=fun l=>by simp[G.mkB]
 refine⟨_,rfl,?_⟩
 refine callX_ofR [] (ok144 (s:=G.mkB (s.data.toList.flatMap (rep1 38 [38,97,109,112,59]))) (c:=34) (nw:=[38,113,117,111,116,59]) (gl:=gl) (g.fr f1 (by simp)) (by rw[sz];omega) (by decide) (by decide)) (by simp) (fun _ _ r=>r.2) ?_
 rintro v h2 ⟨rfl,f2⟩
 rw[dt,enc_two]
 have e3:=enc_len s.data.toList
 refine⟨_,rfl,?_,?_,?_,f1.trans f2⟩
 ·rw [sz];show((1+_:Nat):Int)<=_;omega
 ·rw [ByteArray.size_append,sz];show((1+_+1:Nat):Int)<=_;omega
 ·congr 1
end Go.Proofs.YtlflalecmhgmjaaGreatDoor.N
namespace Go.Proofs.YtlflalecmhgmjaaGreatDoor.N
open Go.Proofs.YtlflalecmhgmjaaGreatDoor
open Go.X
set_option maxRecDepth 100000
set_option maxHeartbeats 2000000
def S66 (g:Int) (gA:Option Addr) (gL gC:Nat) (h:Heap) (R:Value->Heap->Prop):Prop:=
 let f:Heap:=h.push (.cells #[.int .i64 g,.slice gA gL gC] 24)
 let n:=fun(r:Heap)=>
  (R (.bool false) r)
 cnd (decide (g<(0:Int)))
  (n f)
  (cnd (decide (g>(1024:Int)))
   (n f)
   (cnd (decide (((gL:Nat):Int)>(3072:Int)))
    (R (.bool false) f)
    (∃(i:List Value->Heap->Prop) (p:List Value->Heap->Nat),i [.int .i64 0] f/\
    ∀a:Int,∀c,i [.int .i64 a] c->
    cnd (decide (a<((gL:Nat):Int)))
     (∃b o,gA=some ⟨b,o,none⟩/\0<=a/\a<(gL:Nat)/\∃k:Int,hcell c b (o+(Int.toNat a)*2)=some (.int .i64 k)/\∃l:Int,hcell c b ((o+(Int.toNat a)*2)+1)=some (.int .i64 l)/\let s:Heap:=c.push (.cells #[.int .i64 0,.int .i64 0] 48)
     let t:Heap:=hset (hset s c.size 0 (.int .i64 k)) c.size (0+1) (.int .i64 l)
     ∃(j:List Value->Heap->Prop) (q:List Value->Heap->Nat),j [.int .i64 0] t/\
     ∀e:Int,∀d,j [.int .i64 e] d->
     cnd (decide (e<(2:Int)))
      (0<=e/\e<((2:Nat):Int)/\∃m:Int,(#[.int .i64 k,.int .i64 l]:Array Value)[Int.toNat e]? =some (.int .i64 m)/\cnd (decide (m<(0:Int)))
       (R (.bool false) d)
       (cnd (decide (m>=g))
        (R (.bool false) d)
        (j [.int .i64 (IntKind.i64.wrap (e+(1:Int)))] d/\q [.int .i64 (IntKind.i64.wrap (e+(1:Int)))] d<q [.int .i64 e] d)))
      (i [.int .i64 (IntKind.i64.wrap (a+(1:Int)))] d/\p [.int .i64 (IntKind.i64.wrap (a+(1:Int)))] d<p [.int .i64 a] c))
     (R (.bool true) c))))
theorem calls66 {h:Heap} {R:Value->Heap->Prop} (g:Int) (gA:Option Addr) (gL gC:Nat) (H:S66 g gA gL gC h R):CallsH Tryz.prog 66 #[.agg #[.int .i64 g,.slice gA gL gC]] h R:=by
 have e:S66 g gA gL gC h R=FX (envX [1,4] 42) {loops:=[(0,⟨[1,22,23],[24],[1],[]⟩),(2,⟨[1,22,23,24,28],[29],[1],[]⟩)],joins:=[],blocks:=[],draws:=[]} Tryz.f66 (Tryz.f66.body.getD .skip) [.agg #[.int .i64 g,.slice gA gL gC]] h R:=by kernel_rfl
 exact calls_of_FX (envX_ok _ _) Tryz.func66 (by kernel_rfl) (by kernel_rfl) (by kernel_rfl) (e▸H)
def Ok66 (g:Int) (edgesV:List (Int × Int)) (R:Bool->Prop):Prop:=
 ∀(h:Heap) (gA:Option Addr) (gL gC:Nat),Hp h [Ck.vw eP gA gL gC edgesV]->CallsH Tryz.prog 66 #[.agg #[.int .i64 g,.slice gA gL gC]] h fun v h'=>∃(rV:Bool),Sy h [] h' []/\v= .bool rV/\R rV
def T66 (g:Int) (edgesV:List (Int × Int)) (R:Bool->Prop):Prop:=
 ∃e:Prop,
 (cnd (decide (g<(0:Int)))
   (e)
   (cnd (decide (g>(1024:Int)))
    (e)
    (cnd (decide (((edgesV.length:Nat):Int)>(3072:Int)))
     (R false)
     (∃(c:Int->Prop) (i:Int->Nat),c 0/\
     ∀a:Int,c a->
     cnd (decide (a<((edgesV.length:Nat):Int)))
      (0<=a/\a<((edgesV.length:Nat):Int)/\∀f:(Int × Int),edgesV[(Int.toNat a)]? =some f->∃(d:Int->Prop) (j:Int->Nat),d 0/\
      ∀b:Int,d b->
      cnd (decide (b<(2:Int)))
       (0<=b/\b<((2:Nat):Int)/\∃h:Int,(#[.int .i64 f.1,.int .i64 f.2]:Array Value)[Int.toNat b]? =some (.int .i64 h)/\cnd (decide (h<(0:Int)))
        (R false)
        (cnd (decide (h>=g))
         (R false)
         (d (IntKind.i64.wrap (b+(1:Int)))/\j (IntKind.i64.wrap (b+(1:Int)))<j b)))
       (c (IntKind.i64.wrap (a+(1:Int)))/\i (IntKind.i64.wrap (a+(1:Int)))<i a))
      (R true)))))/\
 (e->
 R false)
theorem ok66 {g edgesV} {R:Bool->Prop} (T:T66 g edgesV R):Ok66 g edgesV R:=by
 intro h gA gL gC H
 have Y:Sy h [] h _:=Sy.startM H rfl
 obtain rfl:=Y.lenV 0 rfl
 apply calls66
 unfold S66
 unfold T66 at T
 intro hv
 have Y:Sy _ _ hv [_,_]:=Y.junk _
 clear_value hv
 obtain⟨Jv,T0,T1⟩:=T
 obtain⟨B,hB,_⟩:=Y.cut [] [0,1] rfl
 intro K
 have hK:∀(hv2:Heap),(Sy h [] hv2 ([]++B)/\Jv)->K hv2:=by
  subst hB
  clear T0 Y
  rintro hv2 ⟨Y,T⟩
  replace T:=T1 T
  have Y:Sy _ _ _ [_,_]:=Y
  unfold K
  exact⟨_,Y.pick [] rfl,rfl,T⟩
 subst hB
 replace T:=T0
 clear T0 T1
 refine cnd_imp T (fun T=>?_) (fun T=>?_)
 ·exact hK _ ⟨Y.pick [0,1] rfl,T⟩
 ·refine cnd_imp T (fun T=>?_) (fun T=>?_)
  ·exact hK _ ⟨Y.pick [0,1] rfl,T⟩
  ·refine cnd_imp T (fun T=>?_) (fun T=>?_)
   ·exact ⟨_,Y.pick [] rfl,rfl,T⟩
   ·obtain ⟨Iv,m,T0,T1⟩:=T
    obtain⟨B_2,hB_2,YB⟩:=Y.cut [] [0,1] rfl
    obtain⟨JJ,hJJ⟩:∃JJ:Nat->List Value->Heap->Prop,JJ=(fun k lz h'=>∃(x:Int),lz=[.int .i64 x]/\Sy h [] h' ([]++B_2)/\Iv x/\m x=k):=⟨_,rfl⟩
    refine⟨fun lz h'=>∃k,JJ k lz h',Lm JJ,?_,?_⟩
    ·subst hJJ hB_2
     exact⟨_,_,rfl,YB,T0,rfl⟩
    ·clear YB T0 Y
     intro x hv3 hI
     obtain⟨k,hI,hm⟩:=loopIn hI
     subst hJJ hB_2
     obtain⟨x,e,Y,T,rfl⟩:=hI
     cases e
     replace T:=T1 x T
     have Y:Sy _ _ _ [_,_]:=Y
     refine cnd_imp T (fun T=>?_) (fun T=>?_)
     ·obtain ⟨q,q_2,T⟩:=T
      obtain⟨b_2,o_2,hb,hr,g_2,hx⟩:=Y.atV 0 rfl q q_2
      refine⟨b_2,o_2,hb,q,q_2,?_⟩
      replace T:=T g_2 hx
      refine⟨_,Y.cellV 0 rfl hb (t:=0) hx rfl,?_⟩
      refine⟨_,Y.cellV 0 rfl hb (t:=1) hx rfl,?_⟩
      intro hv4
      have Y:Sy _ _ hv4 [_,_,_]:=Y.junk _
      clear_value hv4
      intro hv5
      have Y:Sy _ _ hv5 [_,_,_]:=((Y.stJ 2 rfl _ _).stJ 2 rfl _ _)
      clear_value hv5
      obtain⟨Iv2,m2,T0,T1⟩:=T
      obtain⟨B_3,hB_3,YB⟩:=Y.cut [] [0,1,2] rfl
      obtain⟨JJ_2,hJJ_2⟩:∃JJ_2:Nat->List Value->Heap->Prop,JJ_2=(fun k_2 lz h'=>∃(x4:Int),lz=[.int .i64 x4]/\Sy h [] h' ([]++B_3)/\Iv2 x4/\m2 x4=k_2):=⟨_,rfl⟩
      refine⟨fun lz h'=>∃k_2,JJ_2 k_2 lz h',Lm JJ_2,?_,?_⟩
      ·subst hJJ_2 hB_3
       exact⟨_,_,rfl,YB,T0,rfl⟩
      ·clear YB T0 Y
       intro x4 hv6 hI
       obtain⟨k_2,hI,hm_2⟩:=loopIn hI
       subst hJJ_2 hB_3
       obtain⟨x4,e,Y,T,rfl⟩:=hI
       cases e
       replace T:=T1 x4 T
       have Y:Sy _ _ _ [_,_,_]:=Y
       refine cnd_imp T (fun T=>?_) (fun T=>?_)
       ·obtain ⟨q_3,q_4,x5,q_5,T⟩:=T
        refine⟨q_3,q_4,x5,q_5,?_⟩
        refine cnd_imp T (fun T=>?_) (fun T=>?_)
        ·exact ⟨_,Y.pick [] rfl,rfl,T⟩
        ·refine cnd_imp T (fun T=>?_) (fun T=>?_)
         ·exact ⟨_,Y.pick [] rfl,rfl,T⟩
         ·exact loopBack hm_2 ⟨_,rfl,Y.pick [0,1,2] rfl,T.1,rfl⟩ T.2
       ·exact loopBack hm ⟨_,rfl,Y.pick [0,1] rfl,T.1,rfl⟩ T.2
     ·exact ⟨_,Y.pick [] rfl,rfl,T⟩
def S67 (length:Int) (n:Int) (h:Heap) (R:Value->Heap->Prop):Prop:=
 cnd (length==(0:Int))
  (R (.bool true) h)
  (R (.bool (length==n)) h)
theorem calls67 {h:Heap} {R:Value->Heap->Prop} (length:Int) (n:Int) (H:S67 length n h R):CallsH Tryz.prog 67 #[.int .i64 length,.int .i64 n] h R:=by
 have e:S67 length n h R=FX (envX [] 12) {loops:=[],joins:=[],blocks:=[],draws:=[]} Tryz.f67 (Tryz.f67.body.getD .skip) [.int .i64 length,.int .i64 n] h R:=by kernel_rfl
 exact calls_of_FX (envX_ok _ _) Tryz.func67 (by kernel_rfl) (by kernel_rfl) (by kernel_rfl) (e▸H)
def Ok67 (length:Int) (n:Int) (R:Bool->Prop):Prop:=
 ∀(h:Heap),Hp h []->CallsH Tryz.prog 67 #[.int .i64 length,.int .i64 n] h fun v h'=>∃(rV:Bool),Sy h [] h' []/\v= .bool rV/\R rV
def T67 (length:Int) (n:Int) (R:Bool->Prop):Prop:=
 cnd (length==(0:Int))
  (R true)
  (R (length==n))
theorem ok67 {length n} {R:Bool->Prop} (T:T67 length n R):Ok67 length n R:=by
 intro h H
 have Y:Sy h [] h _:=Sy.startM H rfl
 apply calls67
 unfold S67
 unfold T67 at T
 refine cnd_imp T (fun T=>?_) (fun T=>?_)
 ·exact ⟨_,Y.pick [] rfl,rfl,T⟩
 ·exact ⟨_,Y.pick [] rfl,rfl,T⟩
def Ok68 (s:ByteArray) (R:Bool->Prop):Prop:=
 ∀(h:Heap),Hp h []->CallsH Tryz.prog 68 #[.string s] h fun v h'=>∃(rV:Bool),Sy h [] h' []/\v= .bool rV/\R rV
def S25 (d:Int) (dA:Option Addr) (dL dC:Nat) (d2:Bool) (dA2:Option Addr) (dL2 dC2:Nat) (dA3:Option Addr) (dL3 dC3:Nat) (dA4:Option Addr) (dL4 dC4:Nat) (h:Heap) (R:Value->Heap->Prop):Prop:=
 let u:Heap:=h.push (.cells #[.int .i64 d,.slice dA dL dC,.bool d2,.slice dA2 dL2 dC2,.slice dA3 dL3 dC3,.slice dA4 dL4 dC4] 29)
 let f:=fun(v:Heap)=>
  (R (.bool false) v)
 callX Tryz.prog 66 #[.agg #[.int .i64 d,.slice dA dL dC]] u [h.size] fun w i=>
 ∃n:Bool,w= .bool n/\
 cnd (!n)
  (f i)
  (callX Tryz.prog 67 #[.int .i64 ((dL2:Nat):Int),.int .i64 d] i [h.size] fun x j=>
  ∃p:Bool,x= .bool p/\
  cnd (!p)
   (f j)
   (callX Tryz.prog 67 #[.int .i64 ((dL3:Nat):Int),.int .i64 d] j [h.size] fun y k=>
   ∃q:Bool,y= .bool q/\
   cnd (!q)
    (f k)
    (callX Tryz.prog 67 #[.int .i64 ((dL4:Nat):Int),.int .i64 ((dL:Nat):Int)] k [h.size] fun z l=>
    ∃r:Bool,z= .bool r/\
    cnd (!r)
     (R (.bool false) l)
     (∃(e:List Value->Heap->Prop) (m:List Value->Heap->Nat),e [.int .i64 0] l/\
     ∀a:Int,∀c,e [.int .i64 a] c->
     cnd (decide (a<((dL2:Nat):Int)))
      (∃b o,dA2=some ⟨b,o,none⟩/\0<=a/\a<(dL2:Nat)/\∃t:ByteArray,hcell c b (o+(Int.toNat a)*1)=some (.string t)/\callX Tryz.prog 68 #[.string t] c [] fun A g=>
      ∃s:Bool,A= .bool s/\
      cnd (!s)
       (R (.bool false) g)
       (e [.int .i64 (IntKind.i64.wrap (a+(1:Int)))] g/\m [.int .i64 (IntKind.i64.wrap (a+(1:Int)))] g<m [.int .i64 a] c))
      (R (.bool true) c)))))
theorem calls25 {h:Heap} {R:Value->Heap->Prop} (d:Int) (dA:Option Addr) (dL dC:Nat) (d2:Bool) (dA2:Option Addr) (dL2 dC2:Nat) (dA3:Option Addr) (dL3 dC3:Nat) (dA4:Option Addr) (dL4 dC4:Nat) (H:S25 d dA dL dC d2 dA2 dL2 dC2 dA3 dL3 dC3 dA4 dL4 dC4 h R):CallsH Tryz.prog 25 #[.agg #[.int .i64 d,.slice dA dL dC,.bool d2,.slice dA2 dL2 dC2,.slice dA3 dL3 dC3,.slice dA4 dL4 dC4]] h R:=by
 have e:S25 d dA dL dC d2 dA2 dL2 dC2 dA3 dL3 dC3 dA4 dL4 dC4 h R=FX (envX [1] 51) {loops:=[(0,⟨[41,42],[43],[],[]⟩)],joins:=[],blocks:=[],draws:=[]} Tryz.f25 (Tryz.f25.body.getD .skip) [.agg #[.int .i64 d,.slice dA dL dC,.bool d2,.slice dA2 dL2 dC2,.slice dA3 dL3 dC3,.slice dA4 dL4 dC4]] h R:=by kernel_rfl
 exact calls_of_FX (envX_ok _ _) Tryz.func25 (by kernel_rfl) (by kernel_rfl) (by kernel_rfl) (e▸H)
def Ok25 (d:Int) (edgesV:List (Int × Int)) (d2:Bool) (labelsV:List ByteArray) (atV:List (Nat × Nat)) (weightV:List Nat) (R:Bool->Prop):Prop:=
 ∀(h:Heap) (dA:Option Addr) (dL dC:Nat) (dA2:Option Addr) (dL2 dC2:Nat) (dA3:Option Addr) (dL3 dC3:Nat) (dA4:Option Addr) (dL4 dC4:Nat),Hp h [Ck.vw eP dA dL dC edgesV,Ck.vw eS dA2 dL2 dC2 labelsV,Ck.vw eFF dA3 dL3 dC3 atV,Ck.vw eF dA4 dL4 dC4 weightV]->CallsH Tryz.prog 25 #[.agg #[.int .i64 d,.slice dA dL dC,.bool d2,.slice dA2 dL2 dC2,.slice dA3 dL3 dC3,.slice dA4 dL4 dC4]] h fun v h'=>∃(rV:Bool),Sy h [] h' []/\v= .bool rV/\R rV
def T25 (d:Int) (edgesV:List (Int × Int)) (d2:Bool) (labelsV:List ByteArray) (atV:List (Nat × Nat)) (weightV:List Nat) (R:Bool->Prop):Prop:=
 ∃b:Prop,
 (Ok66 d edgesV (fun g=>
  cnd (!g)
   (b)
   (Ok67 ((labelsV.length:Nat):Int) d (fun h=>
   cnd (!h)
    (b)
    (Ok67 ((atV.length:Nat):Int) d (fun i=>
    cnd (!i)
     (b)
     (Ok67 ((weightV.length:Nat):Int) ((edgesV.length:Nat):Int) (fun j=>
     cnd (!j)
      (R false)
      (∃(c:Int->Prop) (f:Int->Nat),c 0/\
      ∀a:Int,c a->
      cnd (decide (a<((labelsV.length:Nat):Int)))
       (0<=a/\a<((labelsV.length:Nat):Int)/\∀e:ByteArray,labelsV[(Int.toNat a)]? =some e->Ok68 e (fun k=>
       cnd (!k)
        (R false)
        (c (IntKind.i64.wrap (a+(1:Int)))/\f (IntKind.i64.wrap (a+(1:Int)))<f a)))
       (R true))))))))))/\
 (b->
 R false)
theorem ok25 {d edgesV d2 labelsV atV weightV} {R:Bool->Prop} (T:T25 d edgesV d2 labelsV atV weightV R):Ok25 d edgesV d2 labelsV atV weightV R:=by
 intro h dA dL dC dA2 dL2 dC2 dA3 dL3 dC3 dA4 dL4 dC4 H
 have Y:Sy h [] h _:=Sy.startM H rfl
 obtain rfl:=Y.lenV 0 rfl
 obtain rfl:=Y.lenV 1 rfl
 obtain rfl:=Y.lenV 2 rfl
 obtain rfl:=Y.lenV 3 rfl
 apply calls25
 unfold S25
 unfold T25 at T
 intro hv
 have Y:Sy _ _ hv [_,_,_,_,_]:=Y.junk _
 clear_value hv
 obtain⟨Jv,T0,T1⟩:=T
 obtain⟨B,hB,_⟩:=Y.cut [] [0,1,2,3,4] rfl
 intro K
 have hK:∀(hv6:Heap),(Sy h [] hv6 ([]++B)/\Jv)->K hv6:=by
  subst hB
  clear T0 Y
  rintro hv6 ⟨Y,T⟩
  replace T:=T1 T
  have Y:Sy _ _ _ [_,_,_,_,_]:=Y
  unfold K
  exact⟨_,Y.pick [] rfl,rfl,T⟩
 subst hB
 replace T:=T0
 clear T0 T1
 refine callX_sy (T _ _ _ _ (Y.pick [0] rfl).hp) (fun _ _ ⟨_,p,_⟩=>p.fr) (allc (fun h=>by cases h) alln) ?_
 rintro v hv2 ⟨r,PP,rfl,T⟩
 have Y:Sy _ _ hv2 [_,_,_,_,_]:=Y.gr PP.fr
 clear PP
 refine⟨r,rfl,?_⟩
 refine cnd_imp T (fun T=>?_) (fun T=>?_)
 ·exact hK _ ⟨Y.pick [0,1,2,3,4] rfl,T⟩
 ·refine callX_sy (T _ (Hp.nil _)) (fun _ _ ⟨_,p,_⟩=>p.fr) (allc (fun h=>by cases h) alln) ?_
  rintro v2 hv3 ⟨r2,PP,rfl,T⟩
  have Y:Sy _ _ hv3 [_,_,_,_,_]:=Y.gr PP.fr
  clear PP
  refine⟨r2,rfl,?_⟩
  refine cnd_imp T (fun T=>?_) (fun T=>?_)
  ·exact hK _ ⟨Y.pick [0,1,2,3,4] rfl,T⟩
  ·refine callX_sy (T _ (Hp.nil _)) (fun _ _ ⟨_,p,_⟩=>p.fr) (allc (fun h=>by cases h) alln) ?_
   rintro v3 hv4 ⟨r3,PP,rfl,T⟩
   have Y:Sy _ _ hv4 [_,_,_,_,_]:=Y.gr PP.fr
   clear PP
   refine⟨r3,rfl,?_⟩
   refine cnd_imp T (fun T=>?_) (fun T=>?_)
   ·exact hK _ ⟨Y.pick [0,1,2,3,4] rfl,T⟩
   ·refine callX_sy (T _ (Hp.nil _)) (fun _ _ ⟨_,p,_⟩=>p.fr) (allc (fun h=>by cases h) alln) ?_
    rintro v4 hv5 ⟨r4,PP,rfl,T⟩
    have Y:Sy _ _ hv5 [_,_,_,_,_]:=Y.gr PP.fr
    clear PP
    refine⟨r4,rfl,?_⟩
    refine cnd_imp T (fun T=>?_) (fun T=>?_)
    ·exact ⟨_,Y.pick [] rfl,rfl,T⟩
    ·obtain ⟨Iv,m,T0,T1⟩:=T
     obtain⟨B_2,hB_2,YB⟩:=Y.cut [] [0,1,2,3,4] rfl
     obtain⟨JJ,hJJ⟩:∃JJ:Nat->List Value->Heap->Prop,JJ=(fun k lz h'=>∃(x:Int),lz=[.int .i64 x]/\Sy h [] h' ([]++B_2)/\Iv x/\m x=k):=⟨_,rfl⟩
     refine⟨fun lz h'=>∃k,JJ k lz h',Lm JJ,?_,?_⟩
     ·subst hJJ hB_2
      exact⟨_,_,rfl,YB,T0,rfl⟩
     ·clear YB T0 Y
      intro x hv7 hI
      obtain⟨k,hI,hm⟩:=loopIn hI
      subst hJJ hB_2
      obtain⟨x,e,Y,T,rfl⟩:=hI
      cases e
      replace T:=T1 x T
      have Y:Sy _ _ _ [_,_,_,_,_]:=Y
      refine cnd_imp T (fun T=>?_) (fun T=>?_)
      ·obtain ⟨q,q_2,T⟩:=T
       obtain⟨b_2,o_2,hb,hr,d_2,hx⟩:=Y.atV 1 rfl q q_2
       refine⟨b_2,o_2,hb,q,q_2,?_⟩
       replace T:=T d_2 hx
       refine⟨_,Y.cellV 1 rfl hb (t:=0) hx rfl,?_⟩
       refine callX_sy (T _ (Hp.nil _)) (fun _ _ ⟨_,p,_⟩=>p.fr) alln ?_
       rintro v5 hv8 ⟨r5,PP,rfl,T⟩
       have Y:Sy _ _ hv8 [_,_,_,_,_]:=Y.gr PP.fr
       clear PP
       refine⟨r5,rfl,?_⟩
       refine cnd_imp T (fun T=>?_) (fun T=>?_)
       ·exact ⟨_,Y.pick [] rfl,rfl,T⟩
       ·exact loopBack hm ⟨_,rfl,Y.pick [0,1,2,3,4] rfl,T.1,rfl⟩ T.2
      ·exact ⟨_,Y.pick [] rfl,rfl,T⟩
end Go.Proofs.YtlflalecmhgmjaaGreatDoor.N
namespace Go.Proofs.YtlflalecmhgmjaaGreatDoor.N
open Go.Proofs.YtlflalecmhgmjaaGreatDoor
open Go.X
set_option maxRecDepth 100000
set_option maxHeartbeats 2000000
def S33 (g:Int) (gA:Option Addr) (gL gC:Nat) (h:Heap) (R:Value->Heap->Prop):Prop:=
 let e:Heap:=h.push (.cells #[.int .i64 g,.slice gA gL gC] 24)
 let k:=fun(q:Heap)=>
  (R (.bool false) q)
 cnd (decide (g<(0:Int)))
  (k e)
  (cnd (decide (g>(1024:Int)))
   (k e)
   (cnd (decide (((gL:Nat):Int)>(3072:Int)))
    (R (.bool false) e)
    (∃(i:List Value->Heap->Prop) (l:List Value->Heap->Nat),i [.int .i64 0] e/\
    ∀a:Int,∀f,i [.int .i64 a] f->
    cnd (decide (a<((gL:Nat):Int)))
     (∃(j:List Value->Heap->Prop) (m:List Value->Heap->Nat),j [.int .i64 0] f/\
     ∀c:Int,∀d,j [.int .i64 c] d->
     cnd (decide (c<(2:Int)))
      (∃b o,gA=some ⟨b,o,none⟩/\0<=a/\a<(gL:Nat)/\0<=c/\c<((2:Nat):Int)/\∃n:Int,hcell d b ((o+(Int.toNat a)*2)+(Int.toNat c)*1)=some (.int .i64 n)/\cnd (decide (n<(0:Int)))
       (R (.bool false) d)
       (∃b2 o2,gA=some ⟨b2,o2,none⟩/\0<=a/\a<(gL:Nat)/\0<=c/\c<((2:Nat):Int)/\∃p:Int,hcell d b2 ((o2+(Int.toNat a)*2)+(Int.toNat c)*1)=some (.int .i64 p)/\cnd (decide (p>=g))
        (R (.bool false) d)
        (j [.int .i64 (IntKind.i64.wrap (c+(1:Int)))] d/\m [.int .i64 (IntKind.i64.wrap (c+(1:Int)))] d<m [.int .i64 c] d)))
      (i [.int .i64 (IntKind.i64.wrap (a+(1:Int)))] d/\l [.int .i64 (IntKind.i64.wrap (a+(1:Int)))] d<l [.int .i64 a] f))
     (R (.bool true) f))))
theorem calls33 {h:Heap} {R:Value->Heap->Prop} (g:Int) (gA:Option Addr) (gL gC:Nat) (H:S33 g gA gL gC h R):CallsH Tryz.prog 33 #[.agg #[.int .i64 g,.slice gA gL gC]] h R:=by
 have e:S33 g gA gL gC h R=FX (envX [1] 50) {loops:=[(0,⟨[1],[3],[1],[]⟩),(2,⟨[1,3],[4],[1],[]⟩)],joins:=[],blocks:=[],draws:=[(9,⟨20,false⟩)]} Tryz.f33 (Tryz.f33.body.getD .skip) [.agg #[.int .i64 g,.slice gA gL gC]] h R:=by kernel_rfl
 exact calls_of_FX (envX_ok _ _) Tryz.func33 (by kernel_rfl) (by kernel_rfl) (by kernel_rfl) (e▸H)
def Ok33 (g:Int) (edgesV:List (Int × Int)) (R:Bool->Prop):Prop:=
 ∀(h:Heap) (gA:Option Addr) (gL gC:Nat),Hp h [Ck.vw eP gA gL gC edgesV]->CallsH Tryz.prog 33 #[.agg #[.int .i64 g,.slice gA gL gC]] h fun v h'=>∃(rV:Bool),Sy h [] h' []/\v= .bool rV/\R rV
def T33 (g:Int) (edgesV:List (Int × Int)) (R:Bool->Prop):Prop:=
 ∃e:Prop,
 (cnd (decide (g<(0:Int)))
   (e)
   (cnd (decide (g>(1024:Int)))
    (e)
    (cnd (decide (((edgesV.length:Nat):Int)>(3072:Int)))
     (R false)
     (∃(c:Int->Prop) (h:Int->Nat),c 0/\
     ∀b:Int,c b->
     cnd (decide (b<((edgesV.length:Nat):Int)))
      (∃(d:Int->Prop) (i:Int->Nat),d 0/\
      ∀a:Int,d a->
      cnd (decide (a<(2:Int)))
       (0<=b/\b<((edgesV.length:Nat):Int)/\0<=a/\a<((2:Nat):Int)/\∀f:(Int × Int),edgesV[(Int.toNat b)]? =some f->cnd (decide ((nth2 f a)<(0:Int)))
        (R false)
        (0<=a/\a<((2:Nat):Int)/\cnd (decide ((nth2 f a)>=g))
         (R false)
         (d (IntKind.i64.wrap (a+(1:Int)))/\i (IntKind.i64.wrap (a+(1:Int)))<i a)))
       (c (IntKind.i64.wrap (b+(1:Int)))/\h (IntKind.i64.wrap (b+(1:Int)))<h b))
      (R true)))))/\
 (e->
 R false)
theorem ok33 {g edgesV} {R:Bool->Prop} (T:T33 g edgesV R):Ok33 g edgesV R:=by
 intro h gA gL gC H
 have Y:Sy h [] h _:=Sy.startM H rfl
 obtain rfl:=Y.lenV 0 rfl
 apply calls33
 unfold S33
 unfold T33 at T
 intro hv
 have Y:Sy _ _ hv [_,_]:=Y.junk _
 clear_value hv
 obtain⟨Jv,T0,T1⟩:=T
 obtain⟨B,hB,_⟩:=Y.cut [] [0,1] rfl
 intro K
 have hK:∀(hv2:Heap),(Sy h [] hv2 ([]++B)/\Jv)->K hv2:=by
  subst hB
  clear T0 Y
  rintro hv2 ⟨Y,T⟩
  replace T:=T1 T
  have Y:Sy _ _ _ [_,_]:=Y
  unfold K
  exact⟨_,Y.pick [] rfl,rfl,T⟩
 subst hB
 replace T:=T0
 clear T0 T1
 refine cnd_imp T (fun T=>?_) (fun T=>?_)
 ·exact hK _ ⟨Y.pick [0,1] rfl,T⟩
 ·refine cnd_imp T (fun T=>?_) (fun T=>?_)
  ·exact hK _ ⟨Y.pick [0,1] rfl,T⟩
  ·refine cnd_imp T (fun T=>?_) (fun T=>?_)
   ·exact ⟨_,Y.pick [] rfl,rfl,T⟩
   ·obtain ⟨Iv,m,T0,T1⟩:=T
    obtain⟨B_2,hB_2,YB⟩:=Y.cut [] [0,1] rfl
    obtain⟨JJ,hJJ⟩:∃JJ:Nat->List Value->Heap->Prop,JJ=(fun k_2 lz h'=>∃(i:Int),lz=[.int .i64 i]/\Sy h [] h' ([]++B_2)/\Iv i/\m i=k_2):=⟨_,rfl⟩
    refine⟨fun lz h'=>∃k_2,JJ k_2 lz h',Lm JJ,?_,?_⟩
    ·subst hJJ hB_2
     exact⟨_,_,rfl,YB,T0,rfl⟩
    ·clear YB T0 Y
     intro i hv3 hI
     obtain⟨k_2,hI,hm⟩:=loopIn hI
     subst hJJ hB_2
     obtain⟨i,e,Y,T,rfl⟩:=hI
     cases e
     replace T:=T1 i T
     have Y:Sy _ _ _ [_,_]:=Y
     refine cnd_imp T (fun T=>?_) (fun T=>?_)
     ·obtain ⟨Iv2,m2,T0,T1⟩:=T
      obtain⟨B_3,hB_3,YB⟩:=Y.cut [] [0,1] rfl
      obtain⟨JJ_2,hJJ_2⟩:∃JJ_2:Nat->List Value->Heap->Prop,JJ_2=(fun k_3 lz h'=>∃(k:Int),lz=[.int .i64 k]/\Sy h [] h' ([]++B_3)/\Iv2 k/\m2 k=k_3):=⟨_,rfl⟩
      refine⟨fun lz h'=>∃k_3,JJ_2 k_3 lz h',Lm JJ_2,?_,?_⟩
      ·subst hJJ_2 hB_3
       exact⟨_,_,rfl,YB,T0,rfl⟩
      ·clear YB T0 Y
       intro k hv4 hI
       obtain⟨k_3,hI,hm_2⟩:=loopIn hI
       subst hJJ_2 hB_3
       obtain⟨k,e,Y,T,rfl⟩:=hI
       cases e
       replace T:=T1 k T
       have Y:Sy _ _ _ [_,_]:=Y
       refine cnd_imp T (fun T=>?_) (fun T=>?_)
       ·have Y0:=Y
        have F:Fr [] hv4 hv4:=Fr.refl _ _
        obtain⟨q,q_2,T⟩:=T
        obtain⟨b_2,o_2,hb,hr,g_2,hx⟩:=Y0.atV 0 rfl q q_2
        refine⟨b_2,o_2,hb,q,q_2,?_⟩
        obtain⟨q_5,q_6,T⟩:=T
        refine⟨q_5,q_6,?_⟩
        replace T:=T g_2 hx
        refine⟨_,nth2_cell (Y0.cellV 0 rfl hb (t:=0) hx rfl) (Y0.cellV 0 rfl hb (t:=1) hx rfl) (by assumption) (by assumption),?_⟩
        refine cnd_imp T (fun T=>?_) (fun T=>?_)
        ·exact ⟨_,Y.pick [] rfl,rfl,T⟩
        ·refine ⟨b_2,o_2,hb,q,q_2,?_⟩
         obtain⟨q_3,q_4,T⟩:=T
         refine⟨q_3,q_4,?_⟩
         refine⟨_,nth2_cell (Y0.cellV 0 rfl hb (t:=0) hx rfl) (Y0.cellV 0 rfl hb (t:=1) hx rfl) (by assumption) (by assumption),?_⟩
         refine cnd_imp T (fun T=>?_) (fun T=>?_)
         ·exact ⟨_,Y.pick [] rfl,rfl,T⟩
         ·exact loopBack hm_2 ⟨_,rfl,Y.pick [0,1] rfl,T.1,rfl⟩ T.2
       ·exact loopBack hm ⟨_,rfl,Y.pick [0,1] rfl,T.1,rfl⟩ T.2
     ·exact ⟨_,Y.pick [] rfl,rfl,T⟩
def S35 (a:Int) (aA:Option Addr) (aL aC:Nat) (b:Int) (bA:Option Addr) (bL bC:Nat) (h:Heap) (R:Value->Heap->Prop):Prop:=
 let m:Heap:=h.push (.cells #[.int .i64 a,.slice aA aL aC] 24)
 let f:Heap:=m.push (.cells #[.int .i64 b,.slice bA bL bC] 24)
 cnd (a != b)
  (R (.bool false) f)
  (cnd (((aL:Nat):Int) != ((bL:Nat):Int))
   (R (.bool false) f)
   (∃(e:List Value->Heap->Prop) (g:List Value->Heap->Nat),e [.int .i64 0] f/\
   ∀c:Int,∀d,e [.int .i64 c] d->
   cnd (decide (c<((aL:Nat):Int)))
    (∃b2 o,aA=some ⟨b2,o,none⟩/\0<=c/\c<(aL:Nat)/\∃i:Int,hcell d b2 (o+(Int.toNat c)*2)=some (.int .i64 i)/\∃j:Int,hcell d b2 ((o+(Int.toNat c)*2)+1)=some (.int .i64 j)/\∃b3 o2,bA=some ⟨b3,o2,none⟩/\0<=c/\c<(bL:Nat)/\∃k:Int,hcell d b3 (o2+(Int.toNat c)*2)=some (.int .i64 k)/\∃l:Int,hcell d b3 ((o2+(Int.toNat c)*2)+1)=some (.int .i64 l)/\cnd (!((i==k)&&(j==l)))
     (R (.bool false) d)
     (e [.int .i64 (IntKind.i64.wrap (c+(1:Int)))] d/\g [.int .i64 (IntKind.i64.wrap (c+(1:Int)))] d<g [.int .i64 c] d))
    (R (.bool true) d)))
theorem calls35 {h:Heap} {R:Value->Heap->Prop} (a:Int) (aA:Option Addr) (aL aC:Nat) (b:Int) (bA:Option Addr) (bL bC:Nat) (H:S35 a aA aL aC b bA bL bC h R):CallsH Tryz.prog 35 #[.agg #[.int .i64 a,.slice aA aL aC],.agg #[.int .i64 b,.slice bA bL bC]] h R:=by
 have e:S35 a aA aL aC b bA bL bC h R=FX (envX [2,3] 38) {loops:=[(0,⟨[2,3],[5],[2,3],[]⟩)],joins:=[],blocks:=[],draws:=[(6,⟨11,false⟩)]} Tryz.f35 (Tryz.f35.body.getD .skip) [.agg #[.int .i64 a,.slice aA aL aC],.agg #[.int .i64 b,.slice bA bL bC]] h R:=by kernel_rfl
 exact calls_of_FX (envX_ok _ _) Tryz.func35 (by kernel_rfl) (by kernel_rfl) (by kernel_rfl) (e▸H)
def Ok35 (a:Int) (edgesV:List (Int × Int)) (b:Int) (edgesV2:List (Int × Int)) (R:Bool->Prop):Prop:=
 ∀(h:Heap) (aA:Option Addr) (aL aC:Nat) (bA:Option Addr) (bL bC:Nat),Hp h [Ck.vw eP aA aL aC edgesV,Ck.vw eP bA bL bC edgesV2]->CallsH Tryz.prog 35 #[.agg #[.int .i64 a,.slice aA aL aC],.agg #[.int .i64 b,.slice bA bL bC]] h fun v h'=>∃(rV:Bool),Sy h [] h' []/\v= .bool rV/\R rV
def T35 (a:Int) (edgesV:List (Int × Int)) (b:Int) (edgesV2:List (Int × Int)) (R:Bool->Prop):Prop:=
 cnd (a != b)
  (R false)
  (cnd (((edgesV.length:Nat):Int) != ((edgesV2.length:Nat):Int))
   (R false)
   (∃(d:Int->Prop) (g:Int->Nat),d 0/\
   ∀c:Int,d c->
   cnd (decide (c<((edgesV.length:Nat):Int)))
    (0<=c/\c<((edgesV.length:Nat):Int)/\∀e:(Int × Int),edgesV[(Int.toNat c)]? =some e->0<=c/\c<((edgesV2.length:Nat):Int)/\∀f:(Int × Int),edgesV2[(Int.toNat c)]? =some f->cnd (!((e.1==f.1)&&(e.2==f.2)))
     (R false)
     (d (IntKind.i64.wrap (c+(1:Int)))/\g (IntKind.i64.wrap (c+(1:Int)))<g c))
    (R true)))
theorem ok35 {a edgesV b edgesV2} {R:Bool->Prop} (T:T35 a edgesV b edgesV2 R):Ok35 a edgesV b edgesV2 R:=by
 intro h aA aL aC bA bL bC H
 have Y:Sy h [] h _:=Sy.startM H rfl
 obtain rfl:=Y.lenV 0 rfl
 obtain rfl:=Y.lenV 1 rfl
 apply calls35
 unfold S35
 unfold T35 at T
 intro hv
 have Y:Sy _ _ hv [_,_,_]:=Y.junk _
 clear_value hv
 intro hv2
 have Y:Sy _ _ hv2 [_,_,_,_]:=Y.junk _
 clear_value hv2
 refine cnd_imp T (fun T=>?_) (fun T=>?_)
 ·exact ⟨_,Y.pick [] rfl,rfl,T⟩
 ·refine cnd_imp T (fun T=>?_) (fun T=>?_)
  ·exact ⟨_,Y.pick [] rfl,rfl,T⟩
  ·obtain ⟨Iv,m,T0,T1⟩:=T
   obtain⟨B,hB,YB⟩:=Y.cut [] [0,1,2,3] rfl
   obtain⟨JJ,hJJ⟩:∃JJ:Nat->List Value->Heap->Prop,JJ=(fun k lz h'=>∃(i:Int),lz=[.int .i64 i]/\Sy h [] h' ([]++B)/\Iv i/\m i=k):=⟨_,rfl⟩
   refine⟨fun lz h'=>∃k,JJ k lz h',Lm JJ,?_,?_⟩
   ·subst hJJ hB
    exact⟨_,_,rfl,YB,T0,rfl⟩
   ·clear YB T0 Y
    intro i hv3 hI
    obtain⟨k,hI,hm⟩:=loopIn hI
    subst hJJ hB
    obtain⟨i,e,Y,T,rfl⟩:=hI
    cases e
    replace T:=T1 i T
    have Y:Sy _ _ _ [_,_,_,_]:=Y
    refine cnd_imp T (fun T=>?_) (fun T=>?_)
    ·have Y0:=Y
     have F:Fr [] hv3 hv3:=Fr.refl _ _
     obtain⟨q,q_2,T⟩:=T
     obtain⟨b_2,o_2,hb,hr,a_2,hx⟩:=Y0.atV 0 rfl q q_2
     refine⟨b_2,o_2,hb,q,q_2,?_⟩
     replace T:=T a_2 hx
     refine⟨_,Y0.cellV 0 rfl hb (t:=0) hx rfl,?_⟩
     refine⟨_,Y0.cellV 0 rfl hb (t:=1) hx rfl,?_⟩
     obtain⟨q_3,q_4,T⟩:=T
     obtain⟨b_3,o_3,hb_2,hr_2,b_4,hx_2⟩:=Y0.atV 1 rfl q_3 q_4
     refine⟨b_3,o_3,hb_2,q_3,q_4,?_⟩
     replace T:=T b_4 hx_2
     refine⟨_,Y0.cellV 1 rfl hb_2 (t:=0) hx_2 rfl,?_⟩
     refine⟨_,Y0.cellV 1 rfl hb_2 (t:=1) hx_2 rfl,?_⟩
     refine cnd_imp T (fun T=>?_) (fun T=>?_)
     ·exact ⟨_,Y.pick [] rfl,rfl,T⟩
     ·exact loopBack hm ⟨_,rfl,Y.pick [0,1,2,3] rfl,T.1,rfl⟩ T.2
    ·exact ⟨_,Y.pick [] rfl,rfl,T⟩
end Go.Proofs.YtlflalecmhgmjaaGreatDoor.N
namespace Go.Proofs.YtlflalecmhgmjaaGreatDoor.N
open Go.Proofs.YtlflalecmhgmjaaGreatDoor
open Go.X
set_option maxRecDepth 100000
theorem Ent_put (l:List (Value × Value)) (j:Nat) (k v:Value):(Ent l).modify j (fun e=>{e with key:=k,val:=v})=Ent (l.modify j fun _=>(k,v)):=by
 refine Ent_ext fun i=>?_
 rw[Array.getElem?_modify,Ent_get,List.getElem?_modify]
 by_cases q:j=i
 ·subst q;cases l[j]? <;>simp
 ·cases l[i]? <;>simp[q]
theorem mkB_l (b:ByteArray):G.mkB b.data.toList=b:=by
 cases b;simp[G.mkB]
theorem mkB_eq {l:List UInt8} {b:ByteArray}:(Value.string (G.mkB l)=Value.string b) ↔ l=b.data.toList:=by
 constructor
 ·intro e
  injection e with e
  rw[<-e];simp[G.mkB]
 ·rintro rfl;rw[mkB_l]
theorem ek_get {ks:List (List UInt8)} {j:Nat} {p:Value × Value} (h:(ek ks)[j]? =some p):∃k,ks[j]? =some k/\p=(.string (G.mkB k),.int .i64 1):=by
 unfold ek at h
 rw[List.getElem?_map]at h
 cases e:ks[j]? with
 | none=>rw[e]at h;cases h
 | some k=>rw[e]at h;exact⟨k,rfl,(Option.some.inj h).symm⟩
theorem ek_keys (ks:List (List UInt8)):keysB tiStr (Ent (ek ks)):=by
 intro e he
 obtain⟨j,p,h1,rfl⟩:=Ent_mem he
 obtain⟨k,_,rfl⟩:=ek_get h1
 rfl
theorem hmap_push {h:Heap} {m:Nat} {x:Array MapEntry × Nat} (hm:hmap h m=some x) (o:Obj):hmap (h.push o) m=some x:=by
 obtain⟨es,c⟩:=x
 have:=hmap_some hm
 have hl:=(Array.getElem?_eq_some_iff.1 this).1
 exact hmap_of (by rw[Array.getElem?_push,if_neg (by omega)];exact this)
theorem hmap_lt {h:Heap} {m:Nat} {x:Array MapEntry × Nat} (hm:hmap h m=some x):m<h.size:=by
 obtain⟨es,c⟩:=x
 exact(Array.getElem?_eq_some_iff.1 (hmap_some hm)).1
theorem ok209 {t:G.Tok} {h:Heap} {m:Nat} {ks:List (List UInt8)} (hm:hmap h m=some (Ent (ek ks),(ek ks).length)) (hn:ks.Nodup):
  CallsP Tryz.prog 209 #[.map (some m),tokV t] h (fun v h'=>t.l∉ks/\v= .tuple #[]/\Fr [m] h h'/\hmap h' m=some (Ent (ek (ks++[t.l])),(ek (ks++[t.l])).length))
   (fun v h'=>t.l∈ks/\v=flt (t.at_,18)/\Fr [m] h h'):=by
 unfold tokV
 apply calls209
 unfold S209
 intro hv K
 have ml:=hmap_lt hm
 have hm1:hmap hv m=some (Ent (ek ks),(ek ks).length):=hmap_push hm _
 have f1:Fr [m] h hv:=(Fr.push h _).nil
 have e1:hv.size=h.size+1:=by simp[hv]
 clear_value hv
 have none:∀{h1:Heap},Fr [m] h h1->hmap h1 m=some (Ent (ek ks),(ek ks).length)->t.l∉ks->K (hput h1 m ((Ent (ek ks)).push ⟨.string t.says,.int .i64 1,(ek ks).length⟩) ((ek ks).length+1)):=by
  intro h1 f hmm hni
  have e:(Ent (ek ks)).push ⟨.string t.says,.int .i64 1,(ek ks).length⟩=Ent (ek (ks++[t.l])):=by
   rw[Ent_push];simp[ek,G.Tok.l,mkB_l]
  have el:(ek ks).length+1=(ek (ks++[t.l])).length:=by simp[ek]
  rw[e,el]
  have hp:=hmap_hput (hmap_lt hmm) (Ent (ek (ks++[t.l]))) (ek (ks++[t.l])).length
  refine⟨m,rfl,_,_,hp,ek_keys _,fun ev he hk=>?_,fun q=>?_⟩
  ·obtain ⟨j,p,h3,rfl⟩:=Ent_mem he
   obtain⟨k,_,rfl⟩:=ek_get h3
   exact⟨1,rfl,callMust (fun _=>⟨rfl,hni,rfl,f.trans (hput_fr _ _ _ _),hp⟩) fun z=>absurd z (by decide)⟩
  ·exfalso
   refine q ⟨.string (G.mkB t.l),.int .i64 1,ks.length⟩ ?_ (mkB_eq.2 rfl)
   refine Array.mem_def.1 (Array.mem_of_getElem? (i:=ks.length) ?_)
   rw[Ent_get]
   simp[ek]
 have some:∀{h1:Heap} {j:Nat},Fr [m] h h1->hmap h1 m=some (Ent (ek ks),(ek ks).length)->ks[j]? =some t.l->K (hput h1 m ((Ent (ek ks)).modify j fun e=>{e with key:=.string t.says,val:=.int .i64 2}) (ek ks).length):=by
  intro h1 j f hmm hj
  rw[Ent_put]
  have hp:=hmap_hput (hmap_lt hmm) (Ent ((ek ks).modify j fun _=>(.string t.says,.int .i64 2))) (ek ks).length
  have at_:∀{i:Nat} {p:Value × Value},((ek ks).modify j fun _=>(Value.string t.says,Value.int .i64 2))[i]? =Option.some p->(i=j/\p=(.string t.says,.int .i64 2))\/(i≠j/\∃k,ks[i]? =Option.some k/\p=(.string (G.mkB k),.int .i64 1)):=by
   intro i p hp
   rw[List.getElem?_modify]at hp
   by_cases q:j=i
   ·subst q
    cases e:(ek ks)[j]? with
    | none=>rw[e]at hp;simp at hp
    | some y=>rw[e]at hp;simp at hp;exact .inl ⟨rfl,hp.symm⟩
   ·cases e:(ek ks)[i]? with
    | none=>rw[e]at hp;simp at hp
    | some y=>
     rw[e]at hp
     simp only[if_neg q,Option.map_eq_map,Option.map_some,id_eq,Option.some.injEq]at hp
     subst hp
     obtain⟨k,h3,h4⟩:=ek_get e
     exact .inr ⟨fun z=>q z.symm,k,h3,h4⟩
  refine⟨m,rfl,_,_,hp,?_,fun ev he hk=>?_,fun q=>?_⟩
  ·intro e he
   obtain⟨i,p,h1,rfl⟩:=Ent_mem he
   rcases at_ h1 with⟨_,rfl⟩ | ⟨_,k,_,rfl⟩<;>rfl
  ·obtain ⟨i,p,h3,rfl⟩:=Ent_mem he
   rcases at_ h3 with⟨_,rfl⟩ | ⟨q,k,h4,rfl⟩
   ·exact ⟨2,rfl,callMust (fun z=>absurd z (by decide)) fun _=>⟨List.mem_of_getElem? hj,rfl,f.trans (hput_fr _ _ _ _)⟩⟩
   ·exfalso
    have:k=t.l:=mkB_eq.1 hk
    subst this
    exact q (nodup_inj hn h4 hj)
  ·exfalso
   refine q ⟨.string t.says,.int .i64 2,j⟩ (Array.mem_def.1 (Array.mem_of_getElem? (i:=j) ?_)) rfl
   rw[Ent_get,List.getElem?_modify]
   have:(ek ks)[j]? =Option.some (.string (G.mkB t.l),.int .i64 1):=by simp[ek,hj]
   rw[this]
   simp
 refine⟨m,rfl,_,_,hm1,ek_keys _,fun ev he hk=>?_,fun q=>?_⟩
 ·obtain ⟨j,p,h3,rfl⟩:=Ent_mem he
  obtain⟨k,h4,rfl⟩:=ek_get h3
  have hk:k=t.l:=mkB_eq.1 hk
  subst hk
  refine⟨1,rfl,m,rfl,by omega,_,_,hm1,ek_keys _,fun j2 ev2 h5 h6=>?_,fun q=>?_⟩
  ·rw [Ent_get]at h5
   cases e:(ek ks)[j2]? with
   | none=>rw[e]at h5;cases h5
   | some p=>
    rw[e]at h5
    obtain⟨k2,h7,rfl⟩:=ek_get e
    simp only[Option.map_some,Option.some.injEq]at h5
    subst h5
    have:k2=t.l:=mkB_eq.1 h6
    subst this
    exact some f1 hm1 h7
  ·exact (q _ he (mkB_eq.2 rfl)).elim
 ·have hni:t.l∉ks:=by
   intro hin
   obtain⟨j,hj⟩:=List.mem_iff_getElem?.1 hin
   refine q ⟨.string (G.mkB t.l),.int .i64 1,j⟩ (Array.mem_def.1 (Array.mem_of_getElem? (i:=j) ?_)) (mkB_eq.2 rfl)
   rw[Ent_get]
   simp[ek,hj]
  refine⟨m,rfl,by omega,_,_,hm1,ek_keys _,fun j2 ev2 h5 h6=>?_,fun _=>none f1 hm1 hni⟩
  exact absurd h6 (q ev2 (Array.mem_def.1 (Array.mem_of_getElem? h5)))
end Go.Proofs.YtlflalecmhgmjaaGreatDoor.N
namespace Go.X
theorem Sy.two {h0 h:Heap} {M:List Nat} {X:List Ck} {a c:Ck} (Y:Sy h0 M h (X++[a])) (Z:Sy h0 M h (X++[c])) (ho:c.own=[]) (ha:∀b∈a.own,b∉c.rd):Sy h0 M h (X++[a,c]):=by
 have last:∀{k:Nat} {d:Ck},(X++[a,c])[k]? =some d->(X++[a])[k]? =some d\/(k=X.length+1/\d=c):=by
  intro k d hk
  rcases app_or hk with hk | ⟨hl,hk⟩
  ·exact .inl (app_l hk)
  ·obtain ⟨j,e⟩:∃j,k=X.length+j:=⟨k-X.length,by omega⟩
   subst e
   simp only[Nat.add_sub_cancel_left]at hk
   match j,hk with
   | 0,hk=>exact .inl (by simp at hk;subst hk;simp)
   | 1,hk=>exact .inr ⟨rfl,by simpa using hk.symm⟩
   | j+2,hk=>simp at hk
 have zl:(X++[c])[X.length]? =some c:=by simp
 have vs:∀{k:Nat} {d:Ck},(X++[a])[k]? =some d->Ap d c:=by
  intro k d hk b hb
  refine⟨by simp[ho],fun x=>?_⟩
  rcases app_or hk with hk | ⟨hl,hk⟩
  ·exact (Z.hp.ap k X.length d c (by have:=(List.getElem?_eq_some_iff.1 hk).1;omega) (app_l hk) zl b hb).2 x
  ·have e:d=a:=by
    cases q:k-X.length with
    | zero=>rw[q]at hk;simpa using hk.symm
    | succ n=>rw[q]at hk;simp at hk
   subst e
   exact ha b hb x
 refine⟨Y.fr,⟨fun k d hk=>?_,fun i j d e hij hi hj=>?_⟩,fun k d hk b hb=>?_⟩
 ·rcases last hk with hk | ⟨_,rfl⟩
  ·exact Y.hp.ok k d hk
  ·exact Z.hp.ok _ _ zl
 ·rcases last hi with hi2 | ⟨e1,e1'⟩
  ·rcases last hj with hj2 | ⟨e2,e2'⟩
   ·exact Y.hp.ap i j d e hij hi2 hj2
   ·subst e2';exact vs hi2
  ·subst e1';intro b hb;rw[ho]at hb;cases hb
 ·rcases last hk with hk | ⟨_,rfl⟩
  ·exact Y.ow k d hk b hb
  ·rw [ho]at hb;cases hb
end Go.X
namespace Go.Proofs.YtlflalecmhgmjaaGreatDoor.N
open Go.Proofs.YtlflalecmhgmjaaGreatDoor
open Go.X
set_option maxRecDepth 100000
def eT :En G.Tok:=⟨4,tokL,by decide,fun _=>rfl,fun t v h=>by simp[tokL]at h;rcases h with rfl | rfl | rfl | rfl<;>rfl⟩
structure AD where
 mp:Nat
 aL:Option Addr
 cL:Nat
 aS:Option Addr
 cS:Nat
 aW:Option Addr
 cW:Nat
 aE:Option Addr
 cE:Nat
def idsV (l:List (Int × Nat)):List (Value × Value):=l.map fun p=>(.int .i64 p.1,.int .i64 (p.2:Int))
def rc (s:ByteArray) (A:AD) (σ:G.Rd) (d:Nat):List Value:=
 [.string s,.int .i64 (σ.i:Int),.int .i64 (d:Int),.int .i64 (σ.n:Int),.slice none 0 0,.bool σ.dir,.slice none 0 0,.slice none 0 0,.slice none 0 0,.bool σ.graph,.map (some A.mp),
  .slice A.aL σ.labels.length A.cL,.slice A.aS σ.spots.length A.cS,.slice A.aW σ.weights.length A.cW,.bool σ.h0,.bool σ.h1,.bool σ.h2,.slice A.aE σ.ends.length A.cE]
def stC (gl:GL) (b:Nat) (s:ByteArray) (A:AD) (σ:G.Rd) (d:Nat):List Ck:=
 [Ck.ob b 95 (rc s A σ d),Ck.mp A.mp (idsV σ.ids),Ck.sl eS 9 A.aL σ.labels.length A.cL σ.labels,Ck.sl eFF 78 A.aS σ.spots.length A.cS σ.spots,Ck.sl eF 76 A.aW σ.weights.length A.cW σ.weights,
  Ck.sl eT 156 A.aE σ.ends.length A.cE σ.ends,Ck.glob gl]
def kts :G.Lv->List (List UInt8 × Bool)
 | .graph d=>[(G.kDirected,d)]
 | .node _ a b c=>[(G.kId,a),(G.kLabel,b),(G.kGraphics,c)]
 | .spot _ a b=>[(G.kX,a),(G.kY,b)]
 | .edge _ a b c=>[(G.kSource,a),(G.kTarget,b),(G.kWeight,c)]
 | _=>[]
def Seen (l:G.Lv) (ks:List (List UInt8)):Prop:=ks.Nodup/\∀k,k∈ks ↔ (k,true)∈kts l
abbrev pt (b:Nat):Value:=.pointer (some ⟨b,0,none⟩)
abbrev fnV (n:Nat) (c:Array Value):Value:=.func (.func n) #[] c
def LvR (b:Nat) (l:G.Lv) (kv ov:Value) (mo:Option (Nat × List (List UInt8))) (fs:Fs):Prop:=
 match l with
 | .over=>kv= .nilFunc/\mo=none/\fs=[]
 | .top=>kv= .func (.func 111) #[pt b] #[]/\mo=none/\fs=[]
 | .graph _=>∃xR xM m ks,kv=fnV 152 #[pt xR,pt xM]/\ov=fnV 151 #[]/\mo=some (m,ks)/\Seen l ks/\fs=[(xR,0,pt b),(xM,0,.map (some m))]
 | .node v _ _ _=>∃xM xR xV m ks,kv=fnV 261 #[pt xM,pt xR,pt xV]/\ov=fnV 265 #[pt xM]/\mo=some (m,ks)/\Seen l ks/\fs=[(xM,0,.map (some m)),(xR,0,pt b),(xV,0,.int .i64 (v:Int))]
 | .spot v _ _=>∃xM xR xV m ks,kv=fnV 317 #[pt xM,pt xR,pt xV]/\ov=fnV 151 #[]/\mo=some (m,ks)/\Seen l ks/\fs=[(xM,0,.map (some m)),(xR,0,pt b),(xV,0,.int .i64 (v:Int))]
 | .edge k _ _ _=>∃xM xK xR m ks,kv=fnV 266 #[pt xM,pt xK,pt xR]/\ov=fnV 270 #[pt xM]/\mo=some (m,ks)/\Seen l ks/\fs=[(xM,0,.map (some m)),(xK,0,.int .i64 (k:Int)),(xR,0,pt b)]
def TkR (b:Nat) (A:AD) (x:G.Tk) (p:Option Addr) (mo:Option (Nat × List (List UInt8))) (fs tfs:Fs):Prop:=
 match x with
 | .none=>p=none/\mo=none/\fs=[]/\tfs=[]
 | .list l=>∃t kf kc ov,p=some ⟨t,0,none⟩/\LvR b l (fnV kf kc) ov mo fs/\tfs=[(t,0,.int .i64 1),(t,2,fnV kf kc),(t,3,ov)]
 | .dir=>∃t xR,p=some ⟨t,0,none⟩/\mo=none/\fs=[]/\tfs=[(t,0,.int .i64 4),(t,1,fnV 210 #[pt xR]),(xR,0,pt b)]
 | .id v=>∃t xR xV,p=some ⟨t,0,none⟩/\mo=none/\fs=[]/\tfs=[(t,0,.int .i64 4),(t,1,fnV 262 #[pt xR,pt xV]),(xR,0,pt b),(xV,0,.int .i64 (v:Int))]
 | .label v=>∃t xR xV,p=some ⟨t,0,none⟩/\mo=none/\fs=[]/\tfs=[(t,0,.int .i64 5),(t,1,fnV 263 #[pt xR,pt xV]),(xR,0,pt b),(xV,0,.int .i64 (v:Int))]
 | .spot v y=>∃t xP xR g,p=some ⟨t,0,none⟩/\mo=none/\fs=[]/\A.aS=some ⟨g,0,none⟩/\tfs=[(t,0,.int .i64 4),(t,1,fnV 318 #[pt xP,pt xR]),(xR,0,pt b),(xP,0,.pointer (some ⟨g,v*2+y.toNat,none⟩))]
 | .fin k=>∃t xR xT,p=some ⟨t,0,none⟩/\mo=none/\fs=[]/\tfs=[(t,0,.int .i64 4),(t,1,fnV 267 #[pt xR,pt xT]),(xR,0,pt b),(xT,0,.int .i64 (k:Int))]
 | .weight k=>∃t xR xK,p=some ⟨t,0,none⟩/\mo=none/\fs=[]/\tfs=[(t,0,.int .i64 4),(t,1,fnV 268 #[pt xR,pt xK]),(xR,0,pt b),(xK,0,.int .i64 (k:Int))]
def LvB (σ:G.Rd):G.Lv->Prop
 | .node v _ _ _=>v<σ.n
 | .spot v _ _=>v<σ.n
 | .edge k _ _ _=>k+1<σ.ends.length/\k/2<σ.weights.length
 | _=>True
def TkB (σ:G.Rd):G.Tk->Prop
 | .id v=>v<σ.n
 | .label v=>v<σ.n
 | .spot v _=>v<σ.n
 | .fin k=>k<σ.ends.length
 | .weight k=>k/2<σ.weights.length
 | .list l=>LvB σ l
 | _=>True
structure Gr (σ σ':G.Rd):Prop where
 n:σ.n<=σ'.n
 e:σ.ends.length<=σ'.ends.length
 w:σ.weights.length<=σ'.weights.length
theorem Gr.refl (σ:G.Rd):Gr σ σ:=⟨Nat.le_refl _,Nat.le_refl _,Nat.le_refl _⟩
theorem Gr.trans {a b c:G.Rd} (x:Gr a b) (y:Gr b c):Gr a c:=⟨Nat.le_trans x.n y.n,Nat.le_trans x.e y.e,Nat.le_trans x.w y.w⟩
theorem LvB.gr {σ σ':G.Rd} {l:G.Lv} (h:LvB σ l) (g:Gr σ σ'):LvB σ' l:=by
 have:=g.n;have:=g.e;have:=g.w
 cases l<;>simp only[LvB]at h ⊢ <;>omega
section
variable {gl:GL} {b d:Nat} {s:ByteArray} {A:AD} {σ:G.Rd}
theorem fin3 {h h3:Heap} {C rest:List Ck} {mo mo1:Option (Nat × List (List UInt8))} {fs fs1 tfs:Fs} (Y:Sy h (owns C) h3 (stC gl b s A σ d++Ck.fx mo fs::rest))
  (hl:∀x∈fs.map (·.1),x∈rds C\/h.size<=x) (hg:∀x∈glB gl,x∈rds C)
  (hm:∀p:Nat × List (List UInt8),mo1=some p->∃k:Nat,rest[k]? =some (Ck.mp p.1 (ek p.2)))
  (hf1:∀f∈fs1,hcell h3 f.1 f.2.1=some f.2.2/\(f.1∈fs.map (·.1)\/(h.size<=f.1/\∃(k:Nat) (ty:TypeId) (vs:List Value),rest[k]? =some (Ck.ob f.1 ty vs))))
  (hf2:∀f∈tfs,hcell h3 f.1 f.2.1=some f.2.2/\(f.1∈fs.map (·.1)\/(h.size<=f.1/\∃(k:Nat) (ty:TypeId) (vs:List Value),rest[k]? =some (Ck.ob f.1 ty vs)))):
  Sq h C h3 (stC gl b s A σ d++[Ck.fx mo fs,Ck.fx mo1 fs1,Ck.fx none tfs]):=by
 have hc:chkI (stC gl b s A σ d++Ck.fx mo fs::rest).length [0,1,2,3,4,5,6,7]=true:=by
  simp[chkI,stC]
  decide
 have at8:∀{k:Nat} {c:Ck},rest[k]? =some c->(stC gl b s A σ d++Ck.fx mo fs::rest)[k+8]? =some c:=by
  intro k c hk
  show(_::_::_::_::_::_::_::_::rest:List Ck)[k+8]? =some c
  simpa using hk
 have nin:∀k,k+8∉[0,1,2,3,4,5,6,7]:=by intro k;simp
 have conv:∀{g:Fs},(∀f∈g,hcell h3 f.1 f.2.1=some f.2.2/\(f.1∈fs.map (·.1)\/(h.size<=f.1/\∃(k:Nat) (ty:TypeId) (vs:List Value),rest[k]? =some (Ck.ob f.1 ty vs))))->
   ∀f∈g,hcell h3 f.1 f.2.1=some f.2.2/\∃(k:Nat) (c:Ck),(stC gl b s A σ d++Ck.fx mo fs::rest)[k]? =some c/\((f.1∈c.own/\k∉[0,1,2,3,4,5,6,7])\/(f.1∈c.rd/\∃mo fs,c=Ck.fx mo fs)):=by
  intro g hg f hf
  obtain⟨h1,h2⟩:=hg f hf
  refine⟨h1,?_⟩
  rcases h2 with h2 | ⟨_,k,ty,vs,h2⟩
  ·exact ⟨7,Ck.fx mo fs,rfl,.inr ⟨h2,mo,fs,rfl⟩⟩
  ·exact ⟨k+8,_,at8 h2,.inl ⟨by simp[Ck.ob],nin k⟩⟩
 have Z1:Sy h (owns C) h3 ((stC gl b s A σ d++[Ck.fx mo fs])++[Ck.fx mo1 fs1]):=Y.cutF [0,1,2,3,4,5,6,7] hc mo1 fs1 (fun p hp=>by
  obtain⟨k,h1⟩:=hm p hp
  exact⟨k+8,at8 h1,nin k⟩) (conv hf1)
 have Z2:Sy h (owns C) h3 ((stC gl b s A σ d++[Ck.fx mo fs])++[Ck.fx none tfs]):=Y.cutF [0,1,2,3,4,5,6,7] hc none tfs (fun p hp=>by cases hp) (conv hf2)
 have Z:Sy h (owns C) h3 ((stC gl b s A σ d++[Ck.fx mo fs])++[Ck.fx mo1 fs1,Ck.fx none tfs]):=Sy.two Z1 Z2 rfl (by
  intro x hx q
  cases mo1 with
  | none=>simp[Ck.fx]at hx
  | some p=>
   simp only[Ck.fx,Option.map_some,Option.toList_some,List.mem_singleton]at hx
   subst hx
   obtain⟨f,h1,h2⟩:=List.mem_map.1 (show p.1∈tfs.map (·.1)from q)
   obtain⟨k,h3⟩:=hm p rfl
   have:=Y.mapM _ (at8 h3)
   exact map_ne_cell this (hf2 f h1).1 h2.symm)
 refine⟨Z,fun x hx=>?_⟩
 have inl:∀{g:Fs},(∀f∈g,hcell h3 f.1 f.2.1=some f.2.2/\(f.1∈fs.map (·.1)\/(h.size<=f.1/\∃(k:Nat) (ty:TypeId) (vs:List Value),rest[k]? =some (Ck.ob f.1 ty vs))))->x∈g.map (·.1)->x∈rds C\/x∈owns C\/h.size<=x:=by
  intro g hg hx
  obtain⟨f,h1,rfl⟩:=List.mem_map.1 hx
  rcases(hg f h1).2 with q | q
  ·exact (hl _ q).imp id .inr
  ·exact .inr (.inr q.1)
 have:x∈glB gl\/x∈fs.map (·.1)\/x∈fs1.map (·.1)\/x∈tfs.map (·.1):=by
  simpa[rds,stC,Ck.ob,Ck.mp,Ck.sl,Ck.glob,Ck.fx]using hx
 rcases this with q | q | q | q
 ·exact .inl (hg x q)
 ·exact (hl x q).imp id .inr
 ·exact inl hf1 q
 ·exact inl hf2 q
end
end Go.Proofs.YtlflalecmhgmjaaGreatDoor.N
