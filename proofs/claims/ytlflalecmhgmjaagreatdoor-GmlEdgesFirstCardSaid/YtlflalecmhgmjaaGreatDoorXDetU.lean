/- What 'det' yields is one value. Conditions: none. -/
import Derived.Test.YtlflalecmhgmjaaGreatDoorXDet3
set_option linter.unusedVariables false
set_option linter.unusedSimpArgs false
namespace Go.X
theorem Sh.ex_one {s:Sh} {K:Value->Prop} (h:s.ex K):∃v,K v/\∀K':Value->Prop,K' v->s.ex K':=by
 cases s<;>simp only[Sh.ex]at h
 case slice=>obtain⟨a,l,c,h⟩:=h;exact⟨_,h,fun _ h'=>⟨a,l,c,h'⟩⟩
 case func=>obtain⟨a,l,c,h⟩:=h;exact⟨_,h,fun _ h'=>⟨a,l,c,h'⟩⟩
 case ifc=>
  rcases h with h | ⟨t,v,h⟩
  ·exact ⟨_,h,fun _ h'=>.inl h'⟩
  ·exact ⟨_,h,fun _ h'=>.inr ⟨t,v,h'⟩⟩
 all_goals (obtain⟨n,h⟩:=h;exact⟨_,h,fun _ h'=>⟨n,h'⟩⟩)
theorem ldCells_one {h:Heap} {b:Nat}:∀{l:List Sh} {o:Nat} {K:List Value->Prop},ldCells h b o l K->∃vs,K vs/\∀K':List Value->Prop,K' vs->ldCells h b o l K'
 | [],_,_,hk=>⟨[],hk,fun _ h'=>h'⟩
 | s::r,o,K,hk=>by
  obtain⟨v,⟨hc,h2⟩,h3⟩:=Sh.ex_one hk
  obtain⟨vs,e1,e2⟩:=ldCells_one h2
  exact⟨v::vs,e1,fun K' h'=>h3 _ ⟨hc,e2 _ h'⟩⟩
def One (D:(AVal->Prop)->Prop) (K:AVal->Prop):Prop:=∃x,K x/\∀K':AVal->Prop,K' x->D K'
theorem ldVar_one {ti:TI} {h:Heap} {b o:Nat} {K:AVal->Prop} (d:ldVar ti h b o K):One (ldVar ti h b o) K:=by
 unfold ldVar at d
 cases hagg:ti.agg with
 | true=>
  simp only[hagg]at d
  obtain⟨vs,e1,e2⟩:=ldCells_one d
  exact⟨_,e1,fun K' h'=>by unfold ldVar;simp only[hagg];exact e2 _ h'⟩
 | false=>
  simp only[hagg]at d
  split at d
  ·rename_i s hs
   obtain⟨v,⟨h1,h2⟩,h3⟩:=Sh.ex_one d
   exact⟨_,h2,fun K' h'=>by unfold ldVar;simp only[hagg,hs];exact h3 _ ⟨h1,h'⟩⟩
  ·exact d.elim
theorem ldPriv_one {ti:TI} {cs:List Value} {o:Nat} {K:AVal->Prop} (d:ldPriv ti cs o K):One (ldPriv ti cs o) K:=by
 unfold ldPriv at d
 split at d
 ·rename_i hagg
  split at d
  ·rename_i vs hs
   exact⟨_,d,fun K' h'=>by unfold ldPriv;simp only[hagg,hs];exact h'⟩
  ·exact d.elim
 ·rename_i hagg
  split at d
  ·rename_i v hs
   exact⟨_,d,fun K' h'=>by unfold ldPriv;simp only[hagg,hs];exact h'⟩
  ·exact d.elim
theorem nob_one {mo:Option (List Nat)} {b:Nat} {D:(AVal->Prop)->Prop} {K:AVal->Prop} (d:nob mo b (D K)) (h:D K->One D K):One (fun K=>nob mo b (D K)) K:=by
 cases mo with
 | none=>exact h d
 | some M=>obtain⟨d1,d2⟩:=d;obtain⟨x,h1,h2⟩:=h d2;exact⟨x,h1,fun K' h'=>⟨d1,h2 K' h'⟩⟩
theorem deref_one {x:AVal} {D E:Nat->Nat->(AVal->Prop)->Prop} {K:AVal->Prop} (d:deref x (fun b o=>D b o K) (fun s o=>E s o K))
  (h1:∀b o,D b o K->One (D b o) K) (h2:∀b o,E b o K->One (E b o) K):One (fun K=>deref x (fun b o=>D b o K) (fun s o=>E s o K)) K:=by
 cases x with
 | ptr b o=>exact h1 b o d
 | loc s o=>exact h2 s o d
 | val u=>
  cases u with
  | pointer pa=>
   obtain⟨b,o,e,d⟩:=d
   obtain⟨y,g1,g2⟩:=h1 b o d
   exact⟨y,g1,fun K' h'=>⟨b,o,e,g2 K' h'⟩⟩
  | _=>exact d.elim
 | _=>exact d.elim
theorem inb_one {x:Operand} {n:Int} {len:Nat} {D:(AVal->Prop)->Prop} {K:AVal->Prop} (d:inb x n len (D K)) (h:D K->One D K):One (fun K=>inb x n len (D K)) K:=by
 cases x with
 | const v=>
  simp only[inb]at d ⊢
  split at d
  ·exact h d
  ·exact d.elim
 | _=>obtain⟨d1,d2,d3⟩:=d;obtain⟨x,g1,g2⟩:=h d3;exact⟨x,g1,fun K' h'=>⟨d1,d2,g2 K' h'⟩⟩
theorem asSlice_one {x:AVal} {D:Option Addr->Nat->Nat->(AVal->Prop)->Prop} {K:AVal->Prop} (d:asSlice x fun a l c=>D a l c K) (h:∀a l c,D a l c K->One (D a l c) K):
  One (fun K=>asSlice x fun a l c=>D a l c K) K:=by
 cases x with
 | val u=>
  cases u with
  | slice a l c=>exact h a l c d
  | _=>exact d.elim
 | sl b o l c=>exact h _ l c d
 | _=>exact d.elim
theorem iop_one {op:BinOp} {k:IntKind} {x y:Int} {K:AVal->Prop} (d:iop op k x y K):One (iop op k x y) K:=by
 cases op<;>simp only[iop]at d<;>first
  | exact⟨_,d,fun _ h'=>h'⟩
  | exact⟨_,d.2,fun _ h'=>⟨d.1,h'⟩⟩
theorem kindEq_one {a b:IntKind} {D:(AVal->Prop)->Prop} {K:AVal->Prop} (d:kindEq a b (D K)) (h:D K->One D K):One (fun K=>kindEq a b (D K)) K:=by
 cases a<;>cases b<;>first | exact d.elim | exact h d
theorem intB_one {op:BinOp} {k k':IntKind} {a b:Int} {K:AVal->Prop} (d:intB op k k' a b K):One (intB op k k' a b) K:=by
 cases op<;>first | exact iop_one (op:=.shl) d | exact iop_one (op:=.shr) d | exact kindEq_one (K:=K) d iop_one
theorem fkindEq_one {a b:FloatKind} {D:(AVal->Prop)->Prop} {K:AVal->Prop} (d:fkindEq a b (D K)) (h:D K->One D K):One (fun K=>fkindEq a b (D K)) K:=by
 cases a<;>cases b<;>first | exact d.elim | exact h d
theorem fcmp_one {op:BinOp} {k:FloatKind} {x y:Nat} {K:AVal->Prop} (d:fcmp op k x y K):One (fcmp op k x y) K:=by
 cases op<;>simp only[fcmp]at d<;>first
  | exact d.elim
  | exact⟨_,d,fun _ h'=>h'⟩
theorem beqB_one {op:BinOp} {b:Bool} {K:AVal->Prop} (d:beqB op b K):One (beqB op b) K:=by
 cases op<;>simp only[beqB]at d<;>first
  | exact d.elim
  | exact⟨_,d,fun _ h'=>h'⟩
theorem strB_one {op:BinOp} {a b:ByteArray} {K:AVal->Prop} (d:strB op a b K):One (strB op a b) K:=by
 cases op<;>simp only[strB]at d<;>first
  | exact d.elim
  | exact⟨_,d,fun _ h'=>h'⟩
  | (obtain⟨d1,d⟩:=d;exact⟨_,d,fun _ h'=>⟨d1,h'⟩⟩)
theorem bop_one {op:BinOp} {x y:AVal} {K:AVal->Prop} (d:bop op x y K):One (bop op x y) K:=by
 unfold bop at d ⊢
 split at d
 ·exact intB_one d
 ·exact fkindEq_one (K:=K) d fcmp_one
 all_goals first | exact beqB_one d | exact strB_one d | exact d.elim
theorem bopA_one {T:TAB} {ti:TI} {op:BinOp} {x y:AVal} {K:AVal->Prop} (d:bopA T ti op x y K):One (bopA T ti op x y) K:=by
 unfold bopA at d ⊢
 split at d
 ·repeat' (first | exact d.elim | exact beqB_one d | split at d)
 ·exact bop_one d
theorem bopN_one {T:TAB} {ti:TI} {y':Operand} {op:BinOp} {x y:AVal} {K:AVal->Prop} (d:bopN T ti y' op x y K):One (bopN T ti y' op x y) K:=by
 unfold bopN at d ⊢
 split at d
 ·repeat' (first | exact d.elim | exact beqB_one d | split at d)
 ·repeat' (first | exact d.elim | exact beqB_one d | split at d)
 ·exact bopA_one d
theorem sbound_one {x:Option Operand} {st:St} {df y:Nat} {D:Nat->(AVal->Prop)->Prop} {K:AVal->Prop} (d:sbound x st df y fun n=>D n K) (h:∀n,D n K->One (D n) K):
  One (fun K=>sbound x st df y fun n=>D n K) K:=by
 cases x with
 | none=>exact h df d
 | some u=>
  simp only[sbound]at d
  split at d
  ·rename_i k n he
   obtain⟨d1,d2,d3⟩:=d
   obtain⟨z,g1,g2⟩:=h _ d3
   exact⟨z,g1,fun K' h'=>by simp only[sbound,he];exact⟨d1,d2,g2 K' h'⟩⟩
  ·exact d.elim
theorem lenOfX_one {x:AVal} {g:Nat->AVal} {K:AVal->Prop} (d:lenOfX x fun n=>K (g n)):∃y,K y/\∀K':AVal->Prop,K' y->lenOfX x fun n=>K' (g n):=by
 unfold lenOfX at d ⊢
 split at d<;>first | exact d.elim | exact⟨_,d,fun _ h'=>h'⟩
theorem capOfX_one {x:AVal} {g:Nat->AVal} {K:AVal->Prop} (d:capOfX x fun n=>K (g n)):∃y,K y/\∀K':AVal->Prop,K' y->capOfX x fun n=>K' (g n):=by
 unfold capOfX at d ⊢
 split at d<;>first | exact d.elim | exact⟨_,d,fun _ h'=>h'⟩
theorem det_one {T:TAB} {L:List Priv} {mo:Option (List Nat)} {st:St} {h:Heap} {op:Op} {K:AVal->Prop} (d:det T L mo st h op K):∃x,K x/\∀K':AVal->Prop,K' x->det T L mo st h op K':=by
 cases op<;>try exact d.elim
 case load t x=>
  simp only[det]at d ⊢
  split at d
  ·rename_i ti h1
   try simp only[h1]
   split at d
   ·rename_i y h2
    try simp only[h2]
    refine deref_one (K:=K) d (fun b o d=>nob_one (K:=K) d ldVar_one) (fun s o d=>?_)
    split at d
    ·rename_i p hp
     try simp only[hp]
     exact ldPriv_one d
    ·exact d.elim
   ·exact d.elim
  ·exact d.elim
 case nilCheck x=>
  simp only[det]at d ⊢
  split at d
  ·rename_i y h2
   try simp only[h2]
   exact deref_one (K:=K) d (fun b o d=>⟨_,d,fun _ h'=>h'⟩) (fun s o d=>⟨_,d,fun _ h'=>h'⟩)
  ·exact d.elim
 case fieldAddr t x f=>
  simp only[det]at d ⊢
  split at d
  ·rename_i h1
   try simp only[h1]
   split at d
   ·rename_i h2
    try simp only[h2]
    split at d
    ·rename_i h3
     try simp only[h3]
     split at d
     ·exact d.elim
     ·rename_i h4
      try simp only[h4]
      split at d
      ·rename_i h5
       try simp only[h5]
       exact deref_one (K:=K) d (fun b o d=>⟨_,d,fun _ h'=>h'⟩) (fun s o d=>⟨_,d,fun _ h'=>h'⟩)
      ·exact d.elim
    ·exact d.elim
   ·exact d.elim
  ·exact d.elim
 case indexAddr t x i=>
  simp only[det]at d ⊢
  split at d
  ·rename_i h1
   try simp only[h1]
   split at d
   ·rename_i h2
    try simp only[h2]
    split at d
    ·rename_i h3
     try simp only[h3]
     split at d
     ·rename_i h4
      try simp only[h4]
      split at d
      ·rename_i h5
       try simp only[h5]
       exact inb_one (K:=K) d fun d=>⟨_,d,fun _ h'=>h'⟩
      ·rename_i y hne h5
       obtain⟨z,g1,g2⟩:=asSlice_one (K:=K) (D:=fun a l _ K=>∃b o,a=some ⟨b,o,none⟩/\0<=_/\_<(l:Int)/\K (.ptr b (o+_))) d (fun a l c d=>by
        obtain⟨b,o,e1,e2,e3,d⟩:=d
        exact⟨_,d,fun K' h'=>⟨b,o,e1,e2,e3,h'⟩⟩)
       refine⟨z,g1,fun K' h'=>?_⟩
       try simp only[h5]
       exact g2 K' h'
      ·exact d.elim
     ·exact d.elim
    ·exact d.elim
   ·rename_i h2
    try simp only[h2]
    split at d
    ·rename_i h3
     try simp only[h3]
     split at d
     ·rename_i h4
      try simp only[h4]
      split at d
      ·rename_i h5
       try simp only[h5]
       exact deref_one (K:=K) d (fun b o d=>inb_one (K:=K) d fun d=>⟨_,d,fun _ h'=>h'⟩) (fun s o d=>inb_one (K:=K) d fun d=>⟨_,d,fun _ h'=>h'⟩)
      ·exact d.elim
     ·exact d.elim
    ·exact d.elim
   ·exact d.elim
  ·exact d.elim
 case binOp op t x y u=>
  simp only[det]at d ⊢
  split at d
  ·rename_i h1
   try simp only[h1]
   split at d
   ·rename_i h2
    try simp only[h2]
    split at d
    ·rename_i h3
     try simp only[h3]
     split at d
     ·rename_i h4
      try simp only[h4]
      exact bopN_one d
     ·exact d.elim
    ·exact d.elim
   ·exact d.elim
  ·exact d.elim
 case slice t x lo hi mx=>
  cases mx with
  | some m0=>cases hi with
   | none=>exact d.elim
   | some h0=>
    simp only[det]at d ⊢
    split at d
    ·rename_i h1
     try simp only[h1]
     split at d
     ·rename_i h2
      try simp only[h2]
      split at d
      ·rename_i h3
       try simp only[h3]
       split at d
       ·rename_i h4
        try simp only[h4]
        exact asSlice_one (K:=K) d fun a l c d=>sbound_one (K:=K) d fun p d=>sbound_one (K:=K) d fun n d=>sbound_one (K:=K) d fun m d=>⟨_,d,fun _ h'=>h'⟩
       ·exact d.elim
      ·exact d.elim
     ·exact d.elim
    ·exact d.elim
  | none=>
   simp only[det]at d ⊢
   split at d
   ·rename_i h1
    try simp only[h1]
    split at d
    ·rename_i h2
     try simp only[h2]
     split at d
     ·rename_i h3
      try simp only[h3]
      split at d
      ·rename_i h4
       try simp only[h4]
       exact asSlice_one (K:=K) d fun a l c d=>sbound_one (K:=K) d fun n d=>sbound_one (K:=K) d fun m d=>⟨_,d,fun _ h'=>h'⟩
      ·exact d.elim
     ·exact d.elim
    ·split at d
     ·rename_i h3
      try simp only[h3]
      split at d
      ·rename_i h4
       try simp only[h4]
       exact sbound_one (K:=K) d fun n d=>sbound_one (K:=K) d fun m d=>⟨_,d,fun _ h'=>h'⟩
      ·exact d.elim
     ·exact d.elim
    ·split at d
     ·rename_i h3
      try simp only[h3]
      split at d
      ·rename_i h4
       try simp only[h4]
       exact deref_one (K:=K) d (fun b o d=>sbound_one (K:=K) d fun n d=>sbound_one (K:=K) d fun m d=>⟨_,d,fun _ h'=>h'⟩) (fun _ _ d=>d.elim)
      ·exact d.elim
     ·exact d.elim
    ·exact d.elim
   ·exact d.elim
 case index t x i=>
  simp only[det]at d ⊢
  split at d
  ·rename_i h1
   try simp only[h1]
   split at d
   ·rename_i h2
    try simp only[h2]
    split at d
    ·rename_i h3
     try simp only[h3]
     split at d
     ·rename_i h4
      try simp only[h4]
      split at d
      ·rename_i h5
       try simp only[h5]
       obtain⟨d1,d2,d⟩:=d
       obtain⟨v,⟨e1,e2⟩,e3⟩:=Sh.ex_one d
       exact⟨_,e2,fun K' h'=>⟨d1,d2,e3 _ ⟨e1,h'⟩⟩⟩
      ·exact d.elim
     ·exact d.elim
    ·exact d.elim
   ·split at d
    ·rename_i h3
     try simp only[h3]
     split at d
     ·rename_i h4
      try simp only[h4]
      split at d
      ·rename_i h5
       try simp only[h5]
       obtain⟨d1,d2,c,d3,d⟩:=d
       exact⟨_,d,fun K' h'=>⟨d1,d2,c,d3,h'⟩⟩
      ·exact d.elim
     ·exact d.elim
    ·exact d.elim
   ·exact d.elim
  ·exact d.elim
 all_goals
  simp only[det]at d ⊢
  repeat' (first | exact d.elim | exact⟨_,d,fun _ h'=>h'⟩ | (obtain⟨r,e,d⟩:=d;exact⟨_,d,fun K' h'=>⟨r,e,h'⟩⟩) | exact lenOfX_one (g:=fun n=>.val (.int .i64 (n:Int))) d | exact capOfX_one (g:=fun n=>.val (.int .i64 (n:Int))) d | split at d)
end Go.X
