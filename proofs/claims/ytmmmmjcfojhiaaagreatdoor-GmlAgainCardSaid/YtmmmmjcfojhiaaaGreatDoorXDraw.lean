/- What 'det' yields is one value. Conditions: none. -/
import Derived.Test.YtmmmmjcfojhiaaaGreatDoorXLoop
import Derived.OrdersHeld
import Derived.StillTail
set_option linter.unusedVariables false
set_option linter.unusedSimpArgs false
namespace Go.X
theorem Sh.ex_one {s:Sh} {K:Value->Prop} (h:s.ex K):∃v,K v/\∀K':Value->Prop,K' v->s.ex K':=by
 cases s<;>simp only[Sh.ex]at h
 case slice=>obtain⟨a,l,c,h⟩:=h;exact⟨_,h,fun _ h'=>⟨a,l,c,h'⟩⟩
 case func=>obtain⟨a,l,c,h⟩:=h;exact⟨_,h,fun _ h'=>⟨a,l,c,h'⟩⟩
 case ifc=>
  rcases h with h | ⟨t,v,h⟩
  ·exact⟨_,h,fun _ h'=>.inl h'⟩
  ·exact⟨_,h,fun _ h'=>.inr ⟨t,v,h'⟩⟩
 all_goals (obtain⟨n,h⟩:=h;exact⟨_,h,fun _ h'=>⟨n,h'⟩⟩)
theorem nI {h:ab} {b:Nat}:∀{l:List Sh} {o:Nat} {K:List Value->Prop},mj h b o l K->∃vs,K vs/\∀K':List Value->Prop,K' vs->mj h b o l K'
 | [],_,_,hk=>⟨[],hk,fun _ h'=>h'⟩
 | s::r,o,K,hk=>by
  obtain⟨v,⟨hc,h2⟩,h3⟩:=Sh.ex_one hk
  obtain⟨vs,e1,e2⟩:=nI h2
  exact⟨v::vs,e1,fun K' h'=>h3 _ ⟨hc,e2 _ h'⟩⟩
def One (D:(AVal->Prop)->Prop) (K:AVal->Prop):Prop:=∃x,K x/\∀K':AVal->Prop,K' x->D K'
theorem AI {ti:TI} {h:ab} {b o:Nat} {K:AVal->Prop} (d:qG ti h b o K):One (qG ti h b o) K:=by
 unfold qG at d
 cases hagg:ti.agg with
 | true=>
  simp only[hagg]at d
  obtain⟨vs,e1,e2⟩:=nI d
  exact⟨_,e1,fun K' h'=>by grind [qG]⟩
 | false=>
  simp only[hagg]at d
  split at d
  ·rename_i s hs
   obtain⟨v,⟨h1,h2⟩,h3⟩:=Sh.ex_one d
   exact⟨_,h2,fun K' h'=>by grind [qG]⟩
  ·exact d.elim
theorem yd {ti:TI} {cs:List Value} {o:Nat} {K:AVal->Prop} (d:kV ti cs o K):One (kV ti cs o) K:=by
 unfold kV at d
 split at d
 ·rename_i hagg
  split at d
  ·rename_i vs hs
   exact⟨_,d,fun K' h'=>by grind [kV]⟩
  ·exact d.elim
 ·rename_i hagg
  split at d
  ·rename_i v hs
   exact⟨_,d,fun K' h'=>by grind [kV]⟩
  ·exact d.elim
theorem HR {mo:Option (List Nat)} {b:Nat} {D:(AVal->Prop)->Prop} {K:AVal->Prop} (d:nob mo b (D K)) (h:D K->One D K):One (fun K=>nob mo b (D K)) K:=by
 cases mo with
 | none=>exact h d
 | some M=>obtain⟨d1,d2⟩:=d;obtain⟨x,h1,h2⟩:=h d2;exact⟨x,h1,fun K' h'=>⟨d1,h2 K' h'⟩⟩
theorem iP {x:AVal} {D E:Nat->Nat->(AVal->Prop)->Prop} {K:AVal->Prop} (d:deref x (fun b o=>D b o K) (fun s o=>E s o K))
  (h1:∀b o,D b o K->One (D b o) K) (h2:∀b o,E b o K->One (E b o) K):One (fun K=>deref x (fun b o=>D b o K) (fun s o=>E s o K)) K:=by
 cases x with
 | ptr b o=>exact h1 b o d
 | loc s o=>exact h2 s o d
 | val u=>
  cases u with
  | pointer pa=>
   obtain⟨b,o,e,d⟩:=d
   obtain⟨y,g1,g2⟩:=h1 b o d
   exact⟨y,g1,fun K' h'=>⟨b,o,e,g2 K' h'⟩⟩
  | _=>exact d.elim
 | _=>exact d.elim
theorem um {x:Operand} {n:Int} {len:Nat} {D:(AVal->Prop)->Prop} {K:AVal->Prop} (d:inb x n len (D K)) (h:D K->One D K):One (fun K=>inb x n len (D K)) K:=by
 cases x with
 | const v=>
  simp only[inb]at d ⊢
  split at d
  ·exact h d
  ·exact d.elim
 | _=>obtain⟨d1,d2,d3⟩:=d;obtain⟨x,g1,g2⟩:=h d3;exact⟨x,g1,fun K' h'=>⟨d1,d2,g2 K' h'⟩⟩
theorem jN {x:AVal} {D:PY->Nat->Nat->(AVal->Prop)->Prop} {K:AVal->Prop} (d:asSlice x fun a l c=>D a l c K) (h:∀a l c,D a l c K->One (D a l c) K):
  One (fun K=>asSlice x fun a l c=>D a l c K) K:=by
 cases x with
 | val u=>
  cases u with
  | slice a l c=>exact h a l c d
  | _=>exact d.elim
 | sl b o l c=>exact h _ l c d
 | _=>exact d.elim
theorem uo {op:BinOp} {k:IntKind} {x y:Int} {K:AVal->Prop} (d:iop op k x y K):One (iop op k x y) K:=by
 cases op<;>simp only[iop]at d<;>first
  | exact⟨_,d,fun _ h'=>h'⟩
  | exact⟨_,d.2,fun _ h'=>⟨d.1,h'⟩⟩
theorem ye {a b:IntKind} {D:(AVal->Prop)->Prop} {K:AVal->Prop} (d:kW a b (D K)) (h:D K->One D K):One (fun K=>kW a b (D K)) K:=by
 cases a<;>cases b<;>first | exact d.elim | exact h d
theorem Ez {op:BinOp} {k k':IntKind} {a b:Int} {K:AVal->Prop} (d:AR op k k' a b K):One (AR op k k' a b) K:=by
 cases op<;>first | exact uo (op:=.shl) d | exact uo (op:=.shr) d | exact ye (K:=K) d uo
theorem wu {a b:FloatKind} {D:(AVal->Prop)->Prop} {K:AVal->Prop} (d:im a b (D K)) (h:D K->One D K):One (fun K=>im a b (D K)) K:=by
 cases a<;>cases b<;>first | exact d.elim | exact h d
theorem EB {op:BinOp} {k:FloatKind} {x y:Nat} {K:AVal->Prop} (d:AU op k x y K):One (AU op k x y) K:=by
 cases op<;>simp only[AU]at d<;>first
  | exact d.elim
  | exact⟨_,d,fun _ h'=>h'⟩
theorem mb {op:BinOp} {b:Bool} {K:AVal->Prop} (d:dG op b K):One (dG op b) K:=by
 cases op<;>simp only[dG]at d<;>first
  | exact d.elim
  | exact⟨_,d,fun _ h'=>h'⟩
theorem EC {op:BinOp} {a b:P0} {K:AVal->Prop} (d:EP op a b K):One (EP op a b) K:=by
 cases op<;>simp only[EP]at d<;>first
  | exact d.elim
  | exact⟨_,d,fun _ h'=>h'⟩
  | (obtain⟨d1,d⟩:=d;exact⟨_,d,fun _ h'=>⟨d1,h'⟩⟩)
theorem HS {op:BinOp} {x y:AVal} {K:AVal->Prop} (d:bop op x y K):One (bop op x y) K:=by
 unfold bop at d ⊢
 split at d
 ·exact Ez d
 ·exact wu (K:=K) d EB
 all_goals first | exact mb d | exact EC d | exact d.elim
theorem ED {T:TAB} {ti:TI} {op:BinOp} {x y:AVal} {K:AVal->Prop} (d:EQ T ti op x y K):One (EQ T ti op x y) K:=by
 unfold EQ at d ⊢
 split at d
 ·repeat' (first | exact d.elim | exact mb d | split at d)
 ·exact HS d
theorem EE {T:TAB} {ti:TI} {y':Operand} {op:BinOp} {x y:AVal} {K:AVal->Prop} (d:ER T ti y' op x y K):One (ER T ti y' op x y) K:=by
 unfold ER at d ⊢
 split at d
 ·repeat' (first | exact d.elim | exact mb d | split at d)
 ·repeat' (first | exact d.elim | exact mb d | split at d)
 ·exact ED d
theorem cF {x:Option Operand} {st:St} {df y:Nat} {D:Nat->(AVal->Prop)->Prop} {K:AVal->Prop} (d:eJ x st df y fun n=>D n K) (h:∀n,D n K->One (D n) K):
  One (fun K=>eJ x st df y fun n=>D n K) K:=by
 cases x with
 | none=>exact h df d
 | some u=>
  simp only[eJ]at d
  split at d
  ·rename_i k n he
   obtain⟨d1,d2,d3⟩:=d
   obtain⟨z,g1,g2⟩:=h _ d3
   exact⟨z,g1,fun K' h'=>by grind [eJ]⟩
  ·exact d.elim
theorem yf {x:AVal} {g:Nat->AVal} {K:AVal->Prop} (d:qI x fun n=>K (g n)):∃y,K y/\∀K':AVal->Prop,K' y->qI x fun n=>K' (g n):=by
 unfold qI at d ⊢
 grind
theorem yg {x:AVal} {g:Nat->AVal} {K:AVal->Prop} (d:qJ x fun n=>K (g n)):∃y,K y/\∀K':AVal->Prop,K' y->qJ x fun n=>K' (g n):=by
 unfold qJ at d ⊢
 grind
theorem HT {T:TAB} {L:List Priv} {mo:Option (List Nat)} {st:St} {h:ab} {op:Op} {K:AVal->Prop} (d:det T L mo st h op K):∃x,K x/\∀K':AVal->Prop,K' x->det T L mo st h op K':=by
 cases op<;>try exact d.elim
 case load t x=>
  simp only[det]at d ⊢
  split at d
  ·rename_i ti h1
   try simp only[h1]
   split at d
   ·rename_i y h2
    try simp only[h2]
    refine iP (K:=K) d (fun b o d=>HR (K:=K) d AI) (fun s o d=>?_)
    split at d
    ·grind [yd]
    ·exact d.elim
   ·exact d.elim
  ·exact d.elim
 case nilCheck x=>
  simp only[det]at d ⊢
  split at d
  ·rename_i y h2
   try simp only[h2]
   exact iP (K:=K) d (fun b o d=>⟨_,d,fun _ h'=>h'⟩) (fun s o d=>⟨_,d,fun _ h'=>h'⟩)
  ·exact d.elim
 case fieldAddr t x f=>
  simp only[det]at d ⊢
  split at d
  ·rename_i h1
   try simp only[h1]
   split at d
   ·rename_i h2
    try simp only[h2]
    split at d
    ·rename_i h3
     try simp only[h3]
     split at d
     ·exact d.elim
     ·rename_i h4
      try simp only[h4]
      split at d
      ·rename_i h5
       try simp only[h5]
       exact iP (K:=K) d (fun b o d=>⟨_,d,fun _ h'=>h'⟩) (fun s o d=>⟨_,d,fun _ h'=>h'⟩)
      ·exact d.elim
    ·exact d.elim
   ·exact d.elim
  ·exact d.elim
 case indexAddr t x i=>
  simp only[det]at d ⊢
  split at d
  ·rename_i h1
   try simp only[h1]
   split at d
   ·rename_i h2
    try simp only[h2]
    split at d
    ·rename_i h3
     try simp only[h3]
     split at d
     ·rename_i h4
      try simp only[h4]
      split at d
      ·rename_i h5
       try simp only[h5]
       exact um (K:=K) d fun d=>⟨_,d,fun _ h'=>h'⟩
      ·rename_i y hne h5
       obtain⟨z,g1,g2⟩:=jN (K:=K) (D:=fun a l _ K=>∃b o,a=some ⟨b,o,none⟩/\0<=_/\_<(l:Int)/\K (.ptr b (o+_))) d (fun a l c d=>by
        obtain⟨b,o,e1,e2,e3,d⟩:=d
        exact⟨_,d,fun K' h'=>⟨b,o,e1,e2,e3,h'⟩⟩)
       grind
      ·exact d.elim
     ·exact d.elim
    ·exact d.elim
   ·rename_i h2
    try simp only[h2]
    split at d
    ·rename_i h3
     try simp only[h3]
     split at d
     ·rename_i h4
      try simp only[h4]
      split at d
      ·rename_i h5
       try simp only[h5]
       exact iP (K:=K) d (fun b o d=>um (K:=K) d fun d=>⟨_,d,fun _ h'=>h'⟩) (fun s o d=>um (K:=K) d fun d=>⟨_,d,fun _ h'=>h'⟩)
      ·exact d.elim
     ·exact d.elim
    ·exact d.elim
   ·exact d.elim
  ·exact d.elim
 case binOp op t x y u=>
  simp only[det]at d ⊢
  split at d
  ·rename_i h1
   try simp only[h1]
   split at d
   ·rename_i h2
    try simp only[h2]
    split at d
    ·rename_i h3
     try simp only[h3]
     split at d
     ·rename_i h4
      try simp only[h4]
      exact EE d
     ·exact d.elim
    ·exact d.elim
   ·exact d.elim
  ·exact d.elim
 case slice t x lo hi mx=>
  cases mx with
  | some m0=>cases hi with
   | none=>exact d.elim
   | some h0=>
    simp only[det]at d ⊢
    split at d
    ·rename_i h1
     try simp only[h1]
     split at d
     ·rename_i h2
      try simp only[h2]
      split at d
      ·rename_i h3
       try simp only[h3]
       split at d
       ·rename_i h4
        try simp only[h4]
        exact jN (K:=K) d fun a l c d=>cF (K:=K) d fun p d=>cF (K:=K) d fun n d=>cF (K:=K) d fun m d=>⟨_,d,fun _ h'=>h'⟩
       ·exact d.elim
      ·exact d.elim
     ·exact d.elim
    ·exact d.elim
  | none=>
   simp only[det]at d ⊢
   split at d
   ·rename_i h1
    try simp only[h1]
    split at d
    ·rename_i h2
     try simp only[h2]
     split at d
     ·rename_i h3
      try simp only[h3]
      split at d
      ·rename_i h4
       try simp only[h4]
       exact jN (K:=K) d fun a l c d=>cF (K:=K) d fun n d=>cF (K:=K) d fun m d=>⟨_,d,fun _ h'=>h'⟩
      ·exact d.elim
     ·exact d.elim
    ·split at d
     ·rename_i h3
      try simp only[h3]
      split at d
      ·rename_i h4
       try simp only[h4]
       exact cF (K:=K) d fun n d=>cF (K:=K) d fun m d=>⟨_,d,fun _ h'=>h'⟩
      ·exact d.elim
     ·exact d.elim
    ·split at d
     ·rename_i h3
      try simp only[h3]
      split at d
      ·rename_i h4
       try simp only[h4]
       exact iP (K:=K) d (fun b o d=>cF (K:=K) d fun n d=>cF (K:=K) d fun m d=>⟨_,d,fun _ h'=>h'⟩) (fun _ _ d=>d.elim)
      ·exact d.elim
     ·exact d.elim
    ·exact d.elim
   ·exact d.elim
 case index t x i=>
  simp only[det]at d ⊢
  split at d
  ·rename_i h1
   try simp only[h1]
   split at d
   ·rename_i h2
    try simp only[h2]
    split at d
    ·rename_i h3
     try simp only[h3]
     split at d
     ·grind [Sh.ex_one]
     ·exact d.elim
    ·exact d.elim
   ·split at d
    ·grind
    ·exact d.elim
   ·exact d.elim
  ·exact d.elim
 all_goals
  simp only[det]at d ⊢
  repeat' (first | exact d.elim | exact⟨_,d,fun _ h'=>h'⟩ | (obtain⟨r,e,d⟩:=d;exact⟨_,d,fun K' h'=>⟨r,e,h'⟩⟩) | exact yf (g:=fun n=>.val (.int .i64 (n:Int))) d | exact yg (g:=fun n=>.val (.int .i64 (n:Int))) d | split at d)
section
variable {P:Program} {ops:Array Oper} {Q:Exit->Act->World->Prop} {md:Region.Mode} {S:Array Bool->World->Prop} {n:Nat} {L:Array Bool->Act->World->Prop}
def wpT (P:Program) (md:Region.Mode) (ops:Array Oper) (Q:Exit->Act->World->Prop) (S:Array Bool->World->Prop) (n:Nat) (L:Array Bool->Act->World->Prop):Nat->Array Bool->Act->World->Prop
 | 0,listed,a,w=>L listed a w
 | f+1,listed,a,w=>Region.ready md ops listed≠[]/\∀i∈Region.ready md ops listed,i<n/\wpOp P ops Q i (fun a' w'=>S (listed.setIfInBounds i true) w'/\wpT P md ops Q S n L f (listed.setIfInBounds i true) a' w') a w
theorem qf {g:Nat} (hL:∀listed a w,L listed a w->wpAny P md ops Q g listed a w):∀(f:Nat) (listed:Array Bool) (a:Act) (w:World),wpT P md ops Q S n L f listed a w->wpAny P md ops Q (f+g) listed a w
 | 0,listed,a,w,h=>by rw[Qu];exact hL _ _ _ h
 | f+1,listed,a,w,h=>by
  rw[show f+1+g=(f+g)+1 by omega]
  exact⟨fun h0=>absurd h0 h.1,fun i hi=>wpOp_mono (fun a' w' h'=>qf hL f _ a' w' h'.2) (h.2 i hi).2⟩
def gW (md:Region.Mode) (ops:Array Oper) (n:Nat):Bool:=
 match Nat.beq n ops.size with
 | true=>true
 | false=>Nat.blt n ops.size&&Region.sinkB md ops n&&Region.chainB md ops n
theorem oz (h:gW md ops n=true) {listed:Array Bool} (inv:HeadInv md ops n listed) {i:Nat} (hin:i<n) (hun:listed.getD i true=false):∀j∈Region.ready md ops listed,j<n:=by
 intro j hj
 unfold gW at h
 cases hb:Nat.beq n ops.size with
 | true=>
  have:=P4 hb
  obtain⟨_,oj,hoj,_⟩:=mem_ready.1 hj
  grind
 | false=>
  simp only[hb,P6]at h
  rcases Nat.lt_or_ge j n with h' | h'
  ·exact h'
  ·exact absurd hj (tail_waits h.1.2 h.2 (Qr h.1.1) inv _ i rfl hin hun j h')
theorem AJ {i:Nat} {oi:Oper} {v:Value} {Z:World->Prop} (hZ:∀listed w,HeadInv md ops n listed->listed.getD i true=false->S listed w->Z w) (hSi:∀listed w,S (listed.setIfInBounds i true) w ↔ S listed w) (hi:ops[i]? =some oi) (hsel:∀(j:Nat) (o:Oper) cs b,ops[j]? =some o->o.op≠ .select cs b) (hQ:∀c a w,Q (.panic c) (a.put oi.dst v) w->Q (.panic c) a w)
  (hT:gW md ops n=true) (hin:i<n) (hdone:∀listed a w,L listed a w->∀j∈Region.ready md ops listed,n<=j):
  ∀(f:Nat) (listed:Array Bool) (a:Act) (w:World),HeadInv md ops n listed->
   (∀j oj,ops[j]? =some oj->j≠i->listed.getD j true=false->(∀e∈oj.after,Region.binds md e=true->e.on≠i)->oi.apart ops oj=true)->
   i∈Region.ready md ops listed->YieldsIf P ops Z oi v a->S listed w->
   wpT P md ops Q S n L f (listed.setIfInBounds i true) (a.put oi.dst v) w->wpT P md ops Q S n L (f+1) listed a w:=by
 intro f
 induction f with
 | zero=>
  intro listed a w inv _ hr hy hS H
  have hun:=(mem_ready.1 hr).1
  refine⟨fun h=>PE,fun j hj=>⟨oz hT inv hin hun j hj,?_⟩⟩
  by_cases hji:j=i
  ·subst hji;exact hy.wpOp hi (hZ _ _ inv hun hS) ⟨(hSi _ _).2 hS,H⟩
  ·have h1:=hdone _ _ _ H j (ready_mono hj hji)
   have h2:=oz hT inv hin hun j hj
   omega
 | succ f ih=>
  intro listed a w inv aq hr hy hS H
  have hun:=(mem_ready.1 hr).1
  refine⟨fun h=>PE,fun j hj=>⟨oz hT inv hin hun j hj,?_⟩⟩
  by_cases hji:j=i
  ·subst hji;exact hy.wpOp hi (hZ _ _ inv hun hS) ⟨(hSi _ _).2 hS,H⟩
  ·have hjn:=oz hT inv hin hun j hj
   have h1:=(H.2 j (ready_mono hj hji)).2
   obtain⟨hjun,oj,hoj,hall⟩:=mem_ready.1 hj
   have hnot:∀e∈oj.after,Region.binds md e=true->e.on≠i:=fun e he hb heq=>by
    have h1:=hall e he hb
    rw[heq,getD_both hun]at h1
    cases h1
   have h2:=wpOp_putIf hoj (aq j oj hoj hji hjun hnot) (fun cs b=>hsel i oi cs b hi) (fun cs b=>hsel j oj cs b hoj) hQ hy h1
   have hfree':∀k ok,ops[k]? =some ok->k≠i->(listed.setIfInBounds j true).getD k true=false->
     (∀e∈ok.after,Region.binds md e=true->e.on≠i)->oi.apart ops ok=true:=fun k ok hk hki hun' hno=>by
    refine aq k ok hk hki ?_ hno
    by_cases hjk:j=k
    ·subst hjk;exact hjun
    ·rw[getD_set_ne true hjk]at hun';exact hun'
   refine wpOp_mono (fun a' w' h3=>?_) h2
   have h4:S (listed.setIfInBounds j true) w':=(hSi _ _).1 (by grind [Array.setIfInBounds_comm])
   refine⟨h4,ih (listed.setIfInBounds j true) a' w' (inv.set hj hjn) hfree' (ready_mono hr (Ne.symm hji)) h3.1 h4 ?_⟩
   grind [Array.setIfInBounds_comm]
end
structure DD where
 n:Nat
 m:Bool
def qg (mk:Nat) (T:TAB) (ops:Array Oper) (opsL:List Oper) (listed:Array Bool):List Nat->Option (Nat × Oper)
 | []=>none
 | i::r=>match opsL[i]? with
  | some o=>(match qK T o.op with
   | false=>(match Region.free .any ops listed i&& !Nat.testBit mk i with
    | true=>some (i,o)
    | false=>qg mk T ops opsL listed r)
   | true=>qg mk T ops opsL listed r)
  | none=>qg mk T ops opsL listed r
theorem mc {mk:Nat} {T:TAB} {ops:Array Oper} {listed:Array Bool}:∀{l:List Nat} {i:Nat} {o:Oper},qg mk T ops ops.toList listed l=some (i,o)->i∈l/\ops[i]? =some o/\Region.free .any ops listed i=true/\qK T o.op=false
 | [],_,_,h=>by simp[qg]at h
 | j::r,i,o,h=>by
  unfold qg at h
  split at h
  ·rename_i o' ho
   split at h
   ·rename_i hna
    split at h
    ·grind
    ·obtain⟨h1,h2⟩:=mc h;exact⟨QQ _ h1,h2⟩
   ·obtain⟨h1,h2⟩:=mc h;exact⟨QQ _ h1,h2⟩
  ·obtain⟨h1,h2⟩:=mc h;exact⟨QQ _ h1,h2⟩
def IB (E:Env) (ro:RO) (ops:List Oper) (L:List Priv) (mo:Option (List Nat)) (i:Nat) (o:Oper) (st:St) (h0:ab) (K:St->Prop):Prop:=
 match bR ro E.n o.dst with
 | false=>False
 | true=>match zy ops st o with
  | some true=>det E.T L mo st h0 o.op fun x=>qL (my ops i) o.dst (st.put o.dst x) K
  | some false=>K (st.put o.dst (.val undef))
  | none=>False
def KU (F:Nat->Prop):List Nat->Prop
 | []=>False
 | [i]=>F i
 | i::r=>F i/\KU F r
theorem sI {F:Nat->Prop}:∀{l:List Nat},KU F l->l≠[]/\∀i∈l,F i
 | [],h=>h.elim
 | [i],h=>⟨PC,fun k hk=>by simp at hk;subst hk;exact h⟩
 | i::j::r,h=>by
  obtain⟨h1,h2⟩:=h
  obtain⟨_,h3⟩:=sI h2
  exact⟨PC,fun k hk=>by
   rcases Qd.1 hk with rfl | hk
   ·exact h1
   ·exact h3 k hk⟩
def aT (T:TAB) (o:Oper):Bool:=qK T o.op
def sT (T:TAB) (o:Oper):Bool:=
 match o.op with
 | .store .. =>qK T o.op
 | _=>false
theorem Ov {T:TAB} {o:Oper} (h:qK T o.op=false):sT T o=false:=by
 unfold sT
 grind
def eI (p:Oper->Bool) (listed:Array Bool):List Oper->Nat->Bool
 | [],_=>false
 | o::r,k=>match p o with
  | false=>eI p listed r (k+1)
  | true=>match listed.getD k false with
   | true=>true
   | false=>eI p listed r (k+1)
def early (p:Oper->Bool) (i:Nat):List Oper->Bool
 | []=>true
 | o::r=>match p o with
  | false=>early p i r
  | true=>match o.after.any fun e=>Region.binds .any e&&Nat.beq e.on i with
   | true=>early p i r
   | false=>false
theorem fT {p:Oper->Bool} {listed:Array Bool}:∀{l:List Oper} {k:Nat},eI p listed l k=true->∃(j:Nat) (o:Oper),l[j]? =some o/\p o=true/\listed.getD (k+j) false=true
 | [],_,h=>by simp[eI]at h
 | o::r,k,h=>by
  unfold eI at h
  split at h
  ·obtain⟨j,o',h1,h2,h3⟩:=fT h
   exact⟨j+1,o',by simpa using h1,h2,by rw[show k+(j+1)=k+1+j by omega];exact h3⟩
  ·rename_i ha
   split at h
   ·rename_i hl;exact⟨0,o,rfl,ha,hl⟩
   ·obtain⟨j,o',h1,h2,h3⟩:=fT h
    exact⟨j+1,o',by simpa using h1,h2,by rw[show k+(j+1)=k+1+j by omega];exact h3⟩
theorem mY {p:Oper->Bool} {listed:Array Bool}:∀{l:List Oper} {k j:Nat} {o:Oper},l[j]? =some o->p o=true->listed.getD (k+j) false=true->eI p listed l k=true
 | [],_,_,_,h,_,_=>by simp at h
 | o::r,k,0,o',h,ha,hl=>by
  have:o=o':=by simpa using h
  subst this
  unfold eI
  grind
 | o::r,k,j+1,o',h,ha,hl=>by
  have ih:=mY (l:=r) (k:=k+1) (j:=j) (by simpa using h) ha (by rw[show k+1+j=k+(j+1) by omega];exact hl)
  unfold eI
  split
  ·exact ih
  ·split
   ·rfl
   ·exact ih
theorem kO {p:Oper->Bool} {i:Nat}:∀{l:List Oper},early p i l=true->∀(j:Nat) (o:Oper),l[j]? =some o->p o=true->∃e∈o.after,Region.binds .any e=true/\e.on=i
 | [],_,j,o,h,_=>by simp at h
 | o::r,h,j,o',hj,ha=>by
  unfold early at h
  split at h
  ·rename_i hf
   cases j with
   | zero=>
    have:o=o':=by simpa using hj
    subst this
    rw[hf]at ha;cases ha
   | succ j=>exact kO h j o' (by simpa using hj) ha
  ·split at h
   ·rename_i hany
    cases j with
    | zero=>
     have:o=o':=by simpa using hj
     subst this
     rw[Array.any_eq_true']at hany
     simp_all
    | succ j=>exact kO h j o' (by simpa using hj) ha
   ·cases h
def SX (T:TAB) (opsL:List Oper) (m1 mo:Option (List Nat)) (h0:ab) (listed:Array Bool) (w:World):Prop:=
 Fr (mo.getD []) h0 w.heap/\(eI (aT T) listed opsL 0=false->Fr [] h0 w.heap)/\(eI (sT T) listed opsL 0=false->Fr (m1.getD []) h0 w.heap)
def moE (T:TAB) (opsL:List Oper) (m1 mo:Option (List Nat)) (i:Nat):Option (List Nat):=
 match early (aT T) i opsL with
 | true=>none
 | false=>(match early (sT T) i opsL with
  | true=>m1
  | false=>mo)
theorem HU {T:TAB} {opsL:List Oper} {m1 mo:Option (List Nat)} {i b:Nat} (h1:b∉m1.getD []) (h:b∉mo.getD []):b∉(moE T opsL m1 mo i).getD []:=by
 grind [moE]
theorem qh {p:Oper->Bool} {opsL:List Oper} {i n:Nat} {listed:Array Bool} (hi:HeadInv .any opsL.toArray n listed) (hun:listed.getD i true=false) (he:early p i opsL=true):eI p listed opsL 0=false:=by
 rw[<-QK]
 intro ha
 obtain⟨j,o,h1,h2,h3⟩:=fT ha
 rw[Qu]at h3
 obtain⟨e,he1,hb,rfl⟩:=kO he j o h1 h2
 have:=hi.closed j o (by simpa using h1) h3 e he1 hb
 grind
theorem EF {T:TAB} {opsL:List Oper} {m1 mo:Option (List Nat)} {h0:ab} {i n:Nat} {listed:Array Bool} {w:World} (hi:HeadInv .any opsL.toArray n listed) (hun:listed.getD i true=false) (hs:SX T opsL m1 mo h0 listed w):Fr ((moE T opsL m1 mo i).getD []) h0 w.heap:=by
 unfold moE
 split
 ·rename_i he
  exact hs.2.1 (qh hi hun he)
 ·split
  ·rename_i he
   exact hs.2.2 (qh hi hun he)
  ·exact hs.1
theorem HV {p:Oper->Bool} {opsL:List Oper} {i:Nat} {o:Oper} (ho:opsL[i]? =some o) (ha:p o=false) (listed:Array Bool):eI p (listed.setIfInBounds i true) opsL 0=eI p listed opsL 0:=by
 rw[Rr]
 constructor
 ·intro h
  obtain⟨j,o',h1,h2,h3⟩:=fT h
  have hij:i≠j:=fun e=>by
   grind
  refine mY h1 h2 ?_
  simp_all
 ·intro h
  obtain⟨j,o',h1,h2,h3⟩:=fT h
  have hij:i≠j:=fun e=>by
   grind
  refine mY h1 h2 ?_
  simp_all
theorem EG {T:TAB} {opsL:List Oper} {m1 mo:Option (List Nat)} {h0:ab} {i:Nat} {o:Oper} (ho:opsL[i]? =some o) (ha:qK T o.op=false) (listed:Array Bool) (w:World):SX T opsL m1 mo h0 (listed.setIfInBounds i true) w ↔ SX T opsL m1 mo h0 listed w:=by
 grind [SX,HV,aT,Ov]
def frX (T:TAB) (opsL:List Oper) (m1 mo:Option (List Nat)) (listed:Array Bool):List Nat:=
 match eI (aT T) listed opsL 0 with
 | true=>(match eI (sT T) listed opsL 0 with
  | true=>mo.getD []
  | false=>m1.getD [])
 | false=>[]
def XH (mk:Nat) (E:Env) (ro:RO) (ops:Array Oper) (opsL:List Oper) (n:Nat) (L:List Priv) (m1 mo:Option (List Nat)) (h0:ab):Nat->Array Bool->St->ab->(St->ab->Prop)->Prop
 | 0,listed,st,h,K=>(match Region.seqB .any ops (ops.size-n) n listed with
  | true=>K st h
  | false=>False)
 | f+1,listed,st,h,K=>match qg mk E.T ops opsL listed (Region.ready .any ops listed)with
  | some (i,o)=>(match Nat.blt i n with
   | true=>IB E ro opsL L (moE E.T opsL m1 mo i) i o st h0 fun st'=>XH mk E ro ops opsL n L m1 mo h0 f (listed.setIfInBounds i true) st' h K
   | false=>False)
  | none=>KU (fun i=>match Nat.blt i n with
   | false=>False
   | true=>match opsL[i]? with
    | some o=>zz E ro opsL i o st h fun st' h'=>Fr (frX E.T opsL m1 mo (listed.setIfInBounds i true)) h0 h'/\XH mk E ro ops opsL n L m1 mo h0 f (listed.setIfInBounds i true) st' h' K
    | none=>False) (Region.ready .any ops listed)
def XD0 (mk:Nat) (E:Env) (ro:RO) (d:DD) (ops:Array Oper) (st:St) (h:ab) (K:St->ab->Prop):Prop:=
 match Region.noSelect ops&&gW .any ops d.n with
 | false=>False
 | true=>match d.m with
  | false=>XH mk E ⟨ro.t,st.lc.map (·.slot)++ro.p,ro.a⟩ ops ops.toList d.n st.lc none none h d.n (Array.replicate ops.size false) st h fun st' h'=>XR E ro ops.toList (ops.toList.drop d.n) d.n st' h' K
  | true=>∃M:List Nat,(∀b∈hid st.lc,b∉M)/\
    XH mk E ⟨ro.t,st.lc.map (·.slot)++ro.p,ro.a⟩ ops ops.toList d.n st.lc (some M) (some M) h d.n (Array.replicate ops.size false) st h fun st' h'=>XR E ro ops.toList (ops.toList.drop d.n) d.n st' h' K
theorem yh {l:List Priv} {s:Nat} {p:Priv} (h:ar l s=some p):mem (l.map (·.slot)) s=true:=by
 induction l<;>grind [ar,mem]
theorem Keep.weaken {ro ro':RO} {st st':St} (h:Keep ro' st st') (ht:∀t,mem ro.t t=true->mem ro'.t t=true) (hp:∀t,mem ro.p t=true->mem ro'.p t=true) (ha:∀t,mem ro.a t=true->mem ro'.a t=true):Keep ro st st':=
 ⟨fun t h1=>h.t t (ht t h1),fun s h1=>h.p s (hp s h1),fun s h1=>h.a s (ha s h1)⟩
theorem PQ.put {pn:Option (Value->ab->Prop)} {w0:World} {c:List PanicEntry} {a:Act} {d:Option Tmp} {v:Value} {w:World} (h:PQ pn w0 c (a.put d v) w):PQ pn w0 c a w:=by
 obtain⟨E,v',a1,a2,a3,a4,a5⟩:=h
 refine⟨E,v',a1,a2,?_,a4,a5⟩
 cases d<;>exact a3
def QN (K:Act->World->Prop) (Pn:List PanicEntry->Act->World->Prop):Exit->Act->World->Prop
 | .normal,a,w=>K a w
 | .panic ch,a,w=>Pn ch a w
 | _,_,_=>False
structure HInv (E:Env) (ro:RO) (L:List Priv) (mo:Option (List Nat)) (h0:ab) (s0:St) (w0:World) (st:St) (a:Act) (w:World):Prop where
 r:Rel st a w
 n:a.tmps.size=E.n
 rest:Rest w0 w
 fr:Fr (mo.getD []) h0 w.heap
 keep:Keep ro s0 st
 pl:∀s p,ar L s=some p->ar st.lc s=some p
theorem qi {mk:Nat} {E:Env} (hE:E.OK) {ro:RO} {opsL:List Oper} {n:Nat} {L:List Priv} {m1 mo:Option (List Nat)} {h0:ab} {s0:St} {w0:World} {K:St->ab->Prop} {Q:Exit->Act->World->Prop}
  (hsel:Region.noSelect opsL.toArray=true) (hT:gW .any opsL.toArray n=true) (hQ:∀c (a:Act) (d:Option Tmp) (v:Value) w,Q (.panic c) (a.put d v) w->Q (.panic c) a w) (hP:∀ch a' w',PQ E.pn w0 ch a' w'->Q (.panic ch) a' w')
  (hL:∀s p,ar L s=some p->h0[p.blk]? =some (.cells p.cells.toArray p.elem (0,0))/\p.blk∉m1.getD []/\p.blk∉mo.getD []/\mem ro.p s=true) (hmm:∀b∈m1.getD [],b∈mo.getD []):
  ∀(f:Nat) (listed:Array Bool) (st:St) (a:Act) (w:World),XH mk E ro opsL.toArray opsL n L m1 mo h0 f listed st w.heap K->HInv E ro L mo h0 s0 w0 st a w->HeadInv .any opsL.toArray n listed->SX E.T opsL m1 mo h0 listed w->
   wpT E.P .any opsL.toArray Q (SX E.T opsL m1 mo h0) n (fun listed a w=>Region.seqB .any opsL.toArray (opsL.toArray.size-n) n listed=true/\∃st,HInv E ro L mo h0 s0 w0 st a w/\K st w.heap) f listed a w
 | 0,listed,st,a,w,d,iv,hi,hs=>by
  unfold XH at d
  split at d
  ·rename_i hb;exact⟨hb,st,iv,d⟩
  ·exact d.elim
 | f+1,listed,st,a,w,d,iv,hi,hs=>by
  unfold XH at d
  split at d
  ·--one is taken first
   rename_i i o hp
   obtain⟨hr,ho,hf,hna⟩:=mc (ops:=opsL.toArray) hp
   split at d
   ·rename_i hlt
    have hlt':=Qr hlt
    unfold IB at d
    split at d
    ·exact d.elim
    ·rename_i hok
     have hok':bR ro a.tmps.size o.dst=true:=by rw[iv.n];exact hok
     have hdone:∀(listed:Array Bool) (a:Act) (w:World),(Region.seqB .any opsL.toArray (opsL.toArray.size-n) n listed=true/\∃st,HInv E ro L mo h0 s0 w0 st a w/\K st w.heap)->∀j∈Region.ready .any opsL.toArray listed,n<=j:=
      fun _ _ _ h=>seqB_ready h.1
     have hoL:opsL[i]? =some o:=by simpa using ho
     have hun:=(mem_ready.1 hr).1
     have hz:Fr ((moE E.T opsL m1 mo i).getD []) h0 w.heap:=EF hi hun hs
     have fin:∀(v:Value) (st':St),YieldsIf E.P opsL.toArray (fun w=>Fr ((moE E.T opsL m1 mo i).getD []) h0 w.heap) o v a->HInv E ro L mo h0 s0 w0 st' (a.put o.dst v) w->
       XH mk E ro opsL.toArray opsL n L m1 mo h0 f (listed.setIfInBounds i true) st' w.heap K->
       wpT E.P .any opsL.toArray Q (SX E.T opsL m1 mo h0) n (fun listed a w=>Region.seqB .any opsL.toArray (opsL.toArray.size-n) n listed=true/\∃st,HInv E ro L mo h0 s0 w0 st a w/\K st w.heap) (f+1) listed a w:=
      fun v st' hy iv' hk=>AJ (Z:=fun w=>Fr ((moE E.T opsL m1 mo i).getD []) h0 w.heap) (fun listed w q1 q2 q3=>EF q1 q2 q3) (EG hoL hna) ho (Region.noSelect_spec hsel) (fun c a w h=>hQ c a _ _ w h) hT hlt' hdone f listed a w hi (Region.free_spec ho hf) hr hy hs
       (qi hE hsel hT hQ hP hL hmm f _ st' _ w hk iv' (hi.set hr hlt') ((EG hoL hna _ _).2 hs))
     split at d
     ·rename_i hw
      have hrl:∀w',Fr ((moE E.T opsL m1 mo i).getD []) h0 w'.heap->RelL L st a w':=fun w' hw'=>⟨iv.r.fr,fun s p hp=>by
       obtain⟨e1,e2,e3,_⟩:=hL s p hp
       exact⟨iv.pl s p hp,hw'.blk_some e1 (HU e2 e3)⟩⟩
      obtain⟨x,hk,hone⟩:=HT d
      obtain⟨x',v,hc,hrun,rfl⟩:=mX hE.T (hrl w hz) hz (hone (fun y=>y=x) rfl)
      have hr':=iv.r.put (gR hok') hc
      obtain⟨st'',r'',k1,k2⟩:=jQ hk hr' (show bR ro (a.put o.dst v).tmps.size o.dst=true by rw[dK];exact hok')
      have hkeep:=(Keep.put hok' x').trans k1
      refine fin v st'' (.inl ⟨mz iv.r.fr hw,fun w' hw'=>?_⟩) ⟨r'',(dK _ _ _).trans iv.n,iv.rest,iv.fr,iv.keep.trans hkeep,fun s p hp=>(hkeep.p s (hL s p hp).2.2.2).trans (iv.pl s p hp)⟩ k2
      obtain⟨x2,v2,hc2,hrun2,rfl⟩:=mX hE.T (hrl w' hw') hw' (hone (fun y=>y=x') rfl)
      grind
     ·rename_i hw
      have hkeep:Keep ro st (st.put o.dst (.val undef)):=Keep.put hok' _
      exact fin undef _ (.inr ⟨mz iv.r.fr hw,rfl⟩) ⟨iv.r.put (gR hok') rfl,(dK _ _ _).trans iv.n,iv.rest,iv.fr,iv.keep.trans hkeep,fun s p hp=>(hkeep.p s (hL s p hp).2.2.2).trans (iv.pl s p hp)⟩ d
     ·exact d.elim
   ·exact d.elim
  ·obtain⟨hne,hall⟩:=sI d
   refine⟨hne,fun i hir=>?_⟩
   have d:=hall i hir
   split at d
   ·exact d.elim
   ·rename_i hlt
    have hlt':=Qr hlt
    refine⟨hlt',?_⟩
    split at d
    ·rename_i o ho
     have hstep:=nR hE (Q:=Q) (fun ch a' w' q=>hP ch a' w' (q.back iv.rest)) d iv.r iv.n
     obtain⟨FM,hFM⟩:∃FM,FM=frX E.T opsL m1 mo (listed.setIfInBounds i true):=⟨_,rfl⟩
     rw[<-hFM]at hstep
     have hSX:∀w':World,Fr FM h0 w'.heap->SX E.T opsL m1 mo h0 (listed.setIfInBounds i true) w':=fun w' hf=>by
      unfold frX at hFM
      split at hFM
      ·rename_i q
       split at hFM
       ·rename_i q2;subst hFM;exact⟨hf,(fun q3=>by grind),(fun q3=>by grind)⟩
       ·subst hFM;exact⟨hf.mono hmm,(fun q3=>by grind),fun _=>hf⟩
      ·subst hFM;exact⟨hf.nil,fun _=>hf,fun _=>hf.nil⟩
     have hnext:∀a' w',Nx ro st (fun st' h'=>Fr FM h0 h'/\XH mk E ro opsL.toArray opsL n L m1 mo h0 f (listed.setIfInBounds i true) st' h' K) a.tmps.size w a' w'->
       SX E.T opsL m1 mo h0 (listed.setIfInBounds i true) w'/\wpT E.P .any opsL.toArray Q (SX E.T opsL m1 mo h0) n (fun listed a w=>Region.seqB .any opsL.toArray (opsL.toArray.size-n) n listed=true/\∃st,HInv E ro L mo h0 s0 w0 st a w/\K st w.heap) f (listed.setIfInBounds i true) a' w':=by
      rintro a' w' ⟨st',r',h1,h2,h3,h4,h5⟩
      have h6:=hSX w' h4
      exact⟨h6,qi hE hsel hT hQ hP hL hmm f _ st' a' w' h5 ⟨r',h2.trans iv.n,iv.rest.trans h1,h6.1,iv.keep.trans h3,fun s p hp=>(h3.p s (hL s p hp).2.2.2).trans (iv.pl s p hp)⟩ (hi.set hir hlt') h6⟩
     unfold wpOp
     have ho':opsL.toArray[i]? =some o:=by simpa using ho
     simp only[ho']
     split
     ·rename_i hw
      rw[if_pos hw]at hstep
      exact .inl (Oper.wp_mono hnext hstep)
     grind
    ·exact d.elim
theorem yi {mk:Nat} {E:Env} (hE:E.OK) {ro:RO} {n f:Nat} {opsL:List Oper} {s0 st:St} (hk0:Keep ro s0 st) {K:St->ab->Prop} {a:Act} {w:World} {m1 mo:Option (List Nat)} {listed:Array Bool} (hsel:Region.noSelect opsL.toArray=true) (hT:gW .any opsL.toArray n=true) (hmm:∀b∈m1.getD [],b∈mo.getD []) (hmo:∀b∈hid st.lc,b∉mo.getD [])
  (hx:XH mk E ⟨ro.t,st.lc.map (·.slot)++ro.p,ro.a⟩ opsL.toArray opsL n st.lc m1 mo w.heap f listed st w.heap (fun st' h'=>XR E ro opsL (opsL.drop n) n st' h' K)) (inv0:HeadInv .any opsL.toArray n listed)
  (r:Rel st a w) (hn:a.tmps.size=E.n):wpAny E.P .any opsL.toArray (QN (Nx ro s0 K E.n w) (PQ E.pn w)) (f+(opsL.toArray.size-n)) listed a {w with drawn:=w.drawn+1}:=by
 have hw:w.heap=({w with drawn:=w.drawn+1}:World).heap:=rfl
 have H:=qi hE (ro:=⟨ro.t,st.lc.map (·.slot)++ro.p,ro.a⟩) (s0:=st) (w0:=w) (Q:=QN (Nx ro s0 K E.n w) (PQ E.pn w)) hsel hT (fun c a d v w h=>PQ.put h) (fun ch a' w' q=>q)
  (fun s p hp=>⟨r.pr s p hp,fun q=>hmo _ (ua hp) (hmm _ q),hmo _ (ua hp),by rw[gZ,yh hp];rfl⟩) hmm f _ st a {w with drawn:=w.drawn+1} hx
  ⟨r.later (Rest.drew _) fun _ _ _=>rfl,hn,Rest.drew _,Fr.refl _ _,Keep.refl _ _,fun s p hp=>hp⟩ inv0 ⟨Fr.refl _ _,fun _=>Fr.refl _ _,fun _=>Fr.refl _ _⟩
 exact qf (g:=opsL.toArray.size-n) (fun listed a' w' hL=>by
  obtain⟨hsq,st',iv,hk⟩:=hL
  have hkeep:Keep ro st st':=iv.keep.weaken (fun _ h=>h) (fun t h=>by rw[gZ,h,Bool.or_true]) (fun _ h=>h)
  have hlist:=qM hE (ro:=ro) (ops:=opsL) (K:=K) (Q:=QN (Nx ro s0 K E.n w) (PQ E.pn w)) (s0:=s0) (w0:=w) (fun a w h=>h) (fun ch a' w' q=>q) (opsL.drop n) n st' a' w' hk iv.r iv.n iv.rest (hk0.trans hkeep)
  have hdl:(opsL.drop n).length=opsL.toArray.size-n:=by simp
  grind [wpAny_of_seq]) _ _ _ _ H
theorem AK {mk:Nat} {E:Env} (hE:E.OK) {ro:RO} {d:DD} {opsL:List Oper} {st:St} {K:St->ab->Prop} {a:Act} {w:World} {id:Nat} (D:XD0 mk E ro d opsL.toArray st w.heap K)
  (r:Rel st a w) (hn:a.tmps.size=E.n):(Code.region id opsL.toArray true).wp E.P (QN (Nx ro st K E.n w) (PQ E.pn w)) a w:=by
 unfold XD0 at D
 split at D
 ·exact D.elim
 ·rename_i hb
  simp only[P6]at hb
  obtain⟨hsel,hT⟩:=hb
  have main:∀mo:Option (List Nat),(∀b∈hid st.lc,b∉mo.getD [])->
    XH mk E ⟨ro.t,st.lc.map (·.slot)++ro.p,ro.a⟩ opsL.toArray opsL d.n st.lc mo mo w.heap d.n (Array.replicate opsL.toArray.size false) st w.heap (fun st' h'=>XR E ro opsL (opsL.drop d.n) d.n st' h' K)->
    (Code.region id opsL.toArray true).wp E.P (QN (Nx ro st K E.n w) (PQ E.pn w)) a w:=by
   intro mo hmo hx
   have inv0:HeadInv .any opsL.toArray d.n (Array.replicate opsL.toArray.size false):=
    ⟨PC,fun j oj _ hl=>(by grind [getD_replicate_false]),fun t _ ht=>getD_in (by simpa using ht) (getD_replicate_false _ _)⟩
   have hle:d.n<=opsL.toArray.size:=by
    unfold gW at hT
    cases hb:Nat.beq d.n opsL.toArray.size with
    | true=>simp_all
    | false=>simp only[hb,P6]at hT;exact RV (Qr hT.1.1)
   refine wp_region_any hE.m ?_
   have:=yi hE (Keep.refl ro st) hsel hT (fun _ q=>q) hmo hx inv0 r hn
   grind
  grind
theorem yj {α β:Type} {x:α} {f g:α->β} {p:Prop} [Decidable p] (h:¬p):((some x).map fun o=>if p then f o else g o)=some (g x):=by simp[h]
def fU (ops:Array Oper) (n i:Nat):Array Oper:=ops.modify n fun o=>{o with after:=o.after.push ⟨i,.data⟩}
theorem kp (ops:Array Oper) (n i:Nat):(fU ops n i).size=ops.size:=by simp[fU]
theorem me {ops:Array Oper} {n i j:Nat}:(fU ops n i)[j]? =(ops[j]?).map fun o=>if n=j then{o with after:=o.after.push ⟨i,.data⟩}else o:=by
 grind [fU]
theorem uq (ops:Array Oper) (n i:Nat) (tmps:Array Value):yielded (fU ops n i) tmps=yielded ops tmps:=by
 funext j
 grind [yielded,me]
theorem AL {P:Program} {ops:Array Oper} {Q:Exit->Act->World->Prop} {n i j:Nat} {K:Act->World->Prop} {a:Act} {w:World} (h:wpOp P (fU ops n i) Q j K a w):wpOp P ops Q j K a w:=by
 unfold wpOp at h ⊢
 rw[me,uq]at h
 cases ho:ops[j]? with
 | none=>grind
 | some o=>
  rw[ho]at h
  simp only[QL]at h
  split at h
  ·exact h
  ·exact h
theorem kP {md:Region.Mode} {ops:Array Oper} {n i j:Nat} {listed:Array Bool} (hl:listed.getD i false=true):j∈Region.ready md (fU ops n i) listed ↔ j∈Region.ready md ops listed:=by
 grind [mem_ready,me]
theorem EH {P:Program} {md:Region.Mode} {ops:Array Oper} {Q:Exit->Act->World->Prop} {n i:Nat}:∀(f:Nat) (listed:Array Bool) (a:Act) (w:World),listed.getD i false=true->wpAny P md (fU ops n i) Q f listed a w->wpAny P md ops Q f listed a w:=by
 intro f
 have em:∀{listed:Array Bool},listed.getD i false=true->(Region.ready md ops listed=[] ↔ Region.ready md (fU ops n i) listed=[]):=fun hl=>by
  rw[List.eq_nil_iff_forall_not_mem,List.eq_nil_iff_forall_not_mem]
  exact⟨fun h j hj=>h j ((kP hl).1 hj),fun h j hj=>h j ((kP hl).2 hj)⟩
 induction f with
 | zero=>
  intro listed a w hl h
  exact⟨(em hl).2 h.1,h.2⟩
 | succ f ih=>
  intro listed a w hl h
  refine⟨fun q=>h.1 ((em hl).1 q),fun j hj=>?_⟩
  refine wpOp_mono (fun a' w' h'=>ih _ a' w' (getD_set_true hl) h') (AL (h.2 j ((kP hl).2 hj)))
def XDq (E:Env) (ro:RO) (i n:Nat) (m:Bool) (ops:Array Oper) (st:St) (h:ab) (K:St->ab->Prop):Prop:=
 match ops[i]? with
 | some o=>(match o.op with
  | .move x=>(match o.guard with
   | none=>(match bR ro E.n o.dst&&Region.noSelect ops&&Region.free .any ops (Array.replicate ops.size false) i&&(Region.ready .any ops (Array.replicate ops.size false)).contains i&&Region.noSelect (fU ops n i)&&gW .any (fU ops n i) n&&Nat.blt i n with
    | true=>(match ev st x with
     | some y=>(match m with
      | false=>XH 0 E ⟨ro.t,(st.put o.dst y).lc.map (·.slot)++ro.p,ro.a⟩ (fU ops n i) (fU ops n i).toList n (st.put o.dst y).lc none none h (n-1) ((Array.replicate ops.size false).setIfInBounds i true) (st.put o.dst y) h fun st' h'=>XR E ro (fU ops n i).toList ((fU ops n i).toList.drop n) n st' h' K
      | true=>∃M:List Nat,(∀b∈hid (st.put o.dst y).lc,b∉M)/\
        XH 0 E ⟨ro.t,(st.put o.dst y).lc.map (·.slot)++ro.p,ro.a⟩ (fU ops n i) (fU ops n i).toList n (st.put o.dst y).lc (some M) (some M) h (n-1) ((Array.replicate ops.size false).setIfInBounds i true) (st.put o.dst y) h fun st' h'=>XR E ro (fU ops n i).toList ((fU ops n i).toList.drop n) n st' h' K)
     | none=>False)
    | false=>False)
   | some _=>False)
  | _=>False)
 | none=>False
theorem AM {E:Env} (hE:E.OK) {ro:RO} {i n:Nat} {m:Bool} {ops:Array Oper} {st:St} {K:St->ab->Prop} {a:Act} {w:World} {id:Nat} (D:XDq E ro i n m ops st w.heap K)
  (r:Rel st a w) (hn:a.tmps.size=E.n):(Code.region id ops true).wp E.P (QN (Nx ro st K E.n w) (PQ E.pn w)) a w:=by
 unfold XDq at D
 split at D
 ·rename_i o ho
  split at D
  ·rename_i x hx
   split at D
   ·rename_i hg
    split at D
    ·rename_i hb
     simp only[P6]at hb
     obtain⟨⟨⟨⟨⟨⟨hdst,hsel⟩,aq⟩,hready⟩,hsel'⟩,hT⟩,hin⟩:=hb
     have hin':=Qr hin
     have hdst':bR ro a.tmps.size o.dst=true:=by grind
     split at D
     ·rename_i y hy
      obtain⟨v,hc,hv⟩:=aQ r.fr hy
      have r1:Rel (st.put o.dst y) (a.put o.dst v) w:=r.put (gR hdst') hc
      have hk:Keep ro st (st.put o.dst y):=Keep.put hdst' y
      have hi:i<ops.size:=(Array.getElem?_eq_some_iff.1 ho).1
      have hle:n<=ops.size:=by
       have:=hT
       unfold gW at this
       rw[kp]at this
       cases hb:Nat.beq n ops.size with
       | true=>simp_all
       | false=>simp only[hb,P6]at this;exact RV (Qr this.1.1)
      have hr0:i∈Region.ready .any ops (Array.replicate ops.size false):=by grind
      have hl1:((Array.replicate ops.size false).setIfInBounds i true).getD i false=true:=by simp[hi]
      have inv:HeadInv .any (fU ops n i).toList.toArray n ((Array.replicate ops.size false).setIfInBounds i true):=by
       refine⟨by simp[kp],fun j oj hj hl e he hb=>?_,fun t h1 h2=>?_⟩
       ·have hji:j=i:=by
         by_cases q:i=j
         ·exact q.symm
         ·rw[getD_set_ne false q,getD_replicate_false]at hl;cases hl
        subst hji
        obtain⟨_,o',ho',hall⟩:=mem_ready.1 hr0
        have hj':(fU ops n j)[j]? =some oj:=by simpa using hj
        rw[me,ho',yj PA]at hj'
        grind [getD_replicate_false]
       ·have h2':t<ops.size:=by simpa[kp]using h2
        rw[getD_set_ne true PA]
        simp_all
      have main:∀mo:Option (List Nat),(∀b∈hid (st.put o.dst y).lc,b∉mo.getD [])->
        XH 0 E ⟨ro.t,(st.put o.dst y).lc.map (·.slot)++ro.p,ro.a⟩ (fU ops n i) (fU ops n i).toList n (st.put o.dst y).lc mo mo w.heap (n-1) ((Array.replicate ops.size false).setIfInBounds i true) (st.put o.dst y) w.heap (fun st' h'=>XR E ro (fU ops n i).toList ((fU ops n i).toList.drop n) n st' h' K)->
        (Code.region id ops true).wp E.P (QN (Nx ro st K E.n w) (PQ E.pn w)) a w:=by
       intro mo hmo hX
       refine wp_region_any hE.m ?_
       have A:=yi hE hk (opsL:=(fU ops n i).toList) PA (by simpa using hT) (fun _ q=>q) hmo (by simpa using hX) inv r1 ((dK _ _ _).trans hn)
       simp only[Array.toArray_toList,kp]at A
       have A2:=EH _ _ _ _ hl1 A
       have A4:=wpAny_take (Q:=QN (Nx ro st K E.n w) (PQ E.pn w)) ho hsel aq hready (fun c a w h=>PQ.put h) (v:=v) (a:=a) (w:={w with drawn:=w.drawn+1}) (.inl ⟨by unfold Region.wanted;rw[hg],fun w'=>by simp[execOp,hx,hv]⟩) A2
       grind
      grind
     ·exact D.elim
    ·exact D.elim
   ·exact D.elim
  ·exact D.elim
 ·exact D.elim
def XD2 (E:Env) (ro:RO) (n:Nat) (ops:Array Oper) (st:St) (h:ab) (K:St->ab->Prop):Prop:=
 match Region.noSelect ops&&gW .any ops n with
 | false=>False
 | true=>∃M1 M:List Nat,(∀b∈M1,b∈M)/\(∀b∈hid st.lc,b∉M)/\
   XH 0 E ⟨ro.t,st.lc.map (·.slot)++ro.p,ro.a⟩ ops ops.toList n st.lc (some M1) (some M) h n (Array.replicate ops.size false) st h fun st' h'=>XR E ro ops.toList (ops.toList.drop n) n st' h' K
theorem AN {E:Env} (hE:E.OK) {ro:RO} {n:Nat} {opsL:List Oper} {st:St} {K:St->ab->Prop} {a:Act} {w:World} {id:Nat} (D:XD2 E ro n opsL.toArray st w.heap K)
  (r:Rel st a w) (hn:a.tmps.size=E.n):(Code.region id opsL.toArray true).wp E.P (QN (Nx ro st K E.n w) (PQ E.pn w)) a w:=by
 unfold XD2 at D
 split at D
 ·exact D.elim
 ·rename_i hb
  simp only[P6]at hb
  obtain⟨hsel,hT⟩:=hb
  obtain⟨M1,M,hmm,hmo,hx⟩:=D
  have inv0:HeadInv .any opsL.toArray n (Array.replicate opsL.toArray.size false):=
   ⟨PC,fun j oj _ hl=>(by grind [getD_replicate_false]),fun t _ ht=>getD_in (by simpa using ht) (getD_replicate_false _ _)⟩
  have hle:n<=opsL.toArray.size:=by
   unfold gW at hT
   cases hb:Nat.beq n opsL.toArray.size with
   | true=>simp_all
   | false=>simp only[hb,P6]at hT;exact RV (Qr hT.1.1)
  refine wp_region_any hE.m ?_
  have:=yi hE (Keep.refl ro st) (m1:=some M1) (mo:=some M) hsel hT hmm hmo hx inv0 r hn
  grind
def XD (E:Env) (ro:RO) (d:DD) (ops:Array Oper) (st:St) (h:ab) (K:St->ab->Prop):Prop:=
 match Nat.blt d.n 1000 with
 | true=>XD0 0 E ro d ops st h K
 | false=>(match Nat.blt d.n 1000000 with
  | true=>XDq E ro (d.n/1000-1) (d.n % 1000) d.m ops st h K
  | false=>(match Nat.blt d.n 1000000000 with
   | true=>XD2 E ro (d.n-1000000) ops st h K
   | false=>XD0 (d.n/1000000000) E ro ⟨d.n % 1000000000,d.m⟩ ops st h K))
theorem wv {E:Env} (hE:E.OK) {ro:RO} {d:DD} {opsL:List Oper} {st:St} {K:St->ab->Prop} {a:Act} {w:World} {id:Nat} (D:XD E ro d opsL.toArray st w.heap K)
  (r:Rel st a w) (hn:a.tmps.size=E.n):(Code.region id opsL.toArray true).wp E.P (QN (Nx ro st K E.n w) (PQ E.pn w)) a w:=by
 grind [XD,AK,AM,AN]
end Go.X
