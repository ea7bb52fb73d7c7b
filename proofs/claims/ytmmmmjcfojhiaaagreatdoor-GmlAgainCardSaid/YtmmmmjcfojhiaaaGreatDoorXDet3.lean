/- The model's operation yields what 'det' says. Conditions: the table of types is the program's; the heap of the world at hand is the one looked at, or a later one. -/
import Derived.Test.YtmmmmjcfojhiaaaGreatDoorXOps
set_option linter.unusedVariables false
set_option linter.unusedSimpArgs false
namespace Go.X
theorem fG {x:AVal} {K L:Nat->Nat->Prop} {lc:List Priv} {v:Value} (h:deref x K L) (hc:x.conc lc=some v):
  (∃b o,v= .pointer (some ⟨b,o,none⟩)/\(∀lc',(AVal.ptr b o).conc lc'=some v)/\K b o)\/
  (∃s o p,ar lc s=some p/\x= .loc s o/\v= .pointer (some ⟨p.blk,o,none⟩)/\L s o):=by
 cases x with
 | ptr b o=>simp[AVal.conc]at hc;exact .inl ⟨b,o,hc.symm,fun _=>by simp[AVal.conc,hc],h⟩
 | loc s o=>
  simp only[AVal.conc,QS]at hc
  obtain⟨p,h1,h2⟩:=hc
  exact .inr ⟨s,o,p,h1,rfl,h2.symm,h⟩
 | val u=>
  cases u with
  | pointer pa=>
   obtain⟨b,o,rfl,hk⟩:=h
   grind [AVal.conc]
  | _=>exact h.elim
 | lit=>exact h.elim
 | sl=>exact h.elim
 | row=>exact h.elim
theorem cj {x:AVal} {K:PY->Nat->Nat->Prop} {lc:List Priv} {v:Value} (h:asSlice x K) (hc:x.conc lc=some v):
  ∃a l c,v= .slice a l c/\K a l c:=by
 cases x with
 | val u=>
  cases u with
  | slice a l c=>simp[AVal.conc]at hc;exact⟨a,l,c,hc.symm,h⟩
  | _=>exact h.elim
 | sl b o l c=>simp[AVal.conc]at hc;exact⟨_,l,c,hc.symm,h⟩
 | _=>exact h.elim
theorem bU {P:Program} {α β:Type} {x:Sem α} {f:α->Sem β} {w w':World} {v:α} (h:x.run P w= .ok v w'):
  (x>>=f).run P w=(f v).run P w':=by simp[h]
section
variable {P:Program} {T:TAB} {st:St} {h:ab} {a:Act} {w:World} {K:AVal->Prop} {o:Oper} {L:List Priv} {mo:Option (List Nat)}
def Out (P:Program) (st:St) (a:Act) (w:World) (o:Oper) (K:AVal->Prop):Prop:=
 ∃x v,x.conc st.lc=some v/\(execOp a.eval o).run P w= .ok (.value v) w/\K x
theorem aV {v:Value} (hr:(execOp a.eval o).run P w= .ok (.value v) w) (hk:K (.val v)):Out P st a w o K:=⟨.val v,v,rfl,hr,hk⟩
theorem vZ {p:Priv} {s:Nat} (r:RelL L st a w) (hp:ar L s=some p) {i:Nat} {v:Value} (hv:p.cells[i]? =some v):ac w.heap p.blk i=some v:=by
 have:=(r.pl s p hp).2
 simp[ac,this,hv]
theorem wa {t:Nat} {x:Operand} (hT:bq P T) (r:RelL L st a w) (hh:Fr (mo.getD []) h w.heap) (ho:o.op= .load t x) (d:det T L mo st h (.load t x) K):Out P st a w o K:=by
 simp only[det]at d
 cases h1:tl T t with
 | none=>simp[h1]at d
 | some ti=>
  have ht:=hT.tl h1
  cases h2:ev st x with
  | none=>grind
  | some y=>
   simp only[h1,h2]at d
   obtain⟨v,hc,hv⟩:=aQ r.fr h2
   have hrun:(execOp a.eval o).run P w=(((do pure (.value (<-Instr.loadAt t v))):Sem Next)).run P w:=by
    simp only[execOp,ho,hv]
   rcases fG d hc with⟨b,of,hb,_,hk⟩ | ⟨s,of,p,hp,rfl,hb,hk⟩
   ·subst hb
    obtain⟨hbm,hk⟩:=ES hk
    unfold qG at hk
    cases hagg:ti.agg with
    | true=>
     simp only[hagg]at hk
     obtain⟨vs,e1,e2,e3⟩:=mq hk
     have:=jg ht hagg w b of vs e1 (fun j u hu=>hh.cell (e2 j u hu) hbm)
     exact aV (by rw[hrun];simp[Instr.loadAt,Instr.sureAddr,this]) e3
    | false=>
     simp only[hagg]at hk
     split at hk
     ·obtain⟨u,_,e2,e3⟩:=Sh.ex_elim hk
      have:=jh ht hagg w b of u (hh.cell e2 hbm)
      exact aV (by rw[hrun];simp[Instr.loadAt,Instr.sureAddr,this]) e3
     grind
   ·subst hb
    cases hpL:ar L s with
    | none=>grind
    | some pL=>
    have:p=pL:=by have:=(r.pl s pL hpL).1;grind
    subst this
    simp only[hpL]at hk
    unfold kV at hk
    cases hagg:ti.agg with
    | true=>
     simp only[hagg]at hk
     cases hs:seg p.cells of ti.shs.length with
     | none=>simp[hs]at hk
     | some vs=>
      simp only[hs]at hk
      obtain⟨e1,e2⟩:=wE hs
      have:=jg ht hagg w p.blk of vs e1 (fun j u hu=>vZ r hpL (e2 j u hu))
      exact aV (by rw[hrun];simp[Instr.loadAt,Instr.sureAddr,this]) hk
    | false=>
     simp only[hagg]at hk
     cases hs:p.cells[of]? with
     | none=>simp[hs]at hk
     | some u=>
      simp only[hs]at hk
      have:=jh ht hagg w p.blk of u (vZ r hpL hs)
      exact aV (by rw[hrun];simp[Instr.loadAt,Instr.sureAddr,this]) hk
theorem ue {x:Operand} (r:RelL L st a w) (ho:o.op= .nilCheck x) (d:det T L mo st h (.nilCheck x) K):Out P st a w o K:=by
 simp only[det]at d
 cases h2:ev st x with
 | none=>simp[h2]at d
 | some y=>
  simp only[h2]at d
  obtain⟨v,hc,hv⟩:=aQ r.fr h2
  rcases fG d hc with⟨b,of,hb,_,hk⟩ | ⟨s,of,p,hp,rfl,hb,hk⟩
  ·subst hb
   exact⟨.ptr b of,_,rfl,by simp[execOp,ho,hv],hk⟩
  ·subst hb
   exact⟨.loc s of,_,hc,by simp[execOp,ho,hv],hk⟩
theorem zr {F:Array Field} {i:Nat} {off ft:Nat} (h:(F.toList.map fun f=>(f.offset,f.type))[i]? =some (off,ft)):∃f,F[i]? =some f/\f.offset=off/\f.type=ft:=by
 grind
theorem qV {t f:Nat} {x:Operand} (hT:bq P T) (r:RelL L st a w) (ho:o.op= .fieldAddr t x f) (d:det T L mo st h (.fieldAddr t x f) K):Out P st a w o K:=by
 simp only[det]at d
 split at d
 ·rename_i shs agg by_ ze fs tg h1
  have ht:=hT.tl h1
  split at d
  ·rename_i off ft h2
   split at d
   ·rename_i fi h3
    have hft:=hT.tl h3
    split at d
    ·exact d.elim
    ·rename_i s0 rest hshs
     split at d
     ·rename_i y h4
      obtain⟨v,hc,hv⟩:=aQ r.fr h4
      obtain⟨dd,i,z,q1,q2,q3,q4,q5,q6,q7,q8,q9⟩:=ht.ex
      have hd:∃F,dd= .struct F/\fs=F.toList.map fun f=>(f.offset,f.type):=by
       cases dd<;>simp[cM]at q8
       grind
      obtain⟨F,rfl,hfs⟩:=hd
      rw[hfs]at h2
      obtain⟨fd,hfd,e1,e2⟩:=zr h2
      have hne:¬(fi.shs.length=0):=by rw[hshs];simp
      have key:∀b of:Nat,(Instr.fieldAt t (.pointer (some ⟨b,of,none⟩)) f).run P w= .ok (.pointer (some ⟨b,yn of off,none⟩)) w:=by
       intro b of
       have hs:=run_sizeOf (P:=P) hft w
       rw[<-e2]at hs
       simp[Instr.fieldAt,run_underlying q1,hfd,Instr.sureAddr,fieldPlace,hs,hne,dM,e1]
      rcases fG d hc with⟨b,of,hb,_,hk⟩ | ⟨s,of,p,hp,rfl,hb,hk⟩
      ·subst hb
       exact⟨.ptr b (yn of off),_,rfl,by simp only[execOp,ho,hv];simp_all,hk⟩
      ·subst hb
       exact⟨.loc s (yn of off),.pointer (some ⟨p.blk,yn of off,none⟩),by simp[AVal.conc,hp],by simp only[execOp,ho,hv];simp_all,hk⟩
     ·exact d.elim
   ·exact d.elim
  ·exact d.elim
 ·exact d.elim
theorem jK {t e:Nat} {ei:TI} {a':PY} {l c:Nat} {k:IntKind} {n:Int} {b of:Nat} {w:World} (hu:P.underlying t=some (.slice e)) (he:TyOK P e ei)
  (ha:a'=some ⟨b,of,none⟩) (h0:0<=n) (h1:n<(l:Int)):
  (Instr.indexAt t (.slice a' l c) (.int k n)).run P w= .ok (.pointer (some ⟨b,of+n.toNat*ei.shs.length,none⟩)) w:=by
 subst ha
 simp[Instr.indexAt,run_underlying hu,asIntOf,h0,h1,run_sizeOf he,dM]
theorem jL {t e len:Nat} {ei:TI} {k:IntKind} {n:Int} {b of:Nat} {w:World} (hu:P.underlying t=some (.array len e)) (he:TyOK P e ei)
  (h0:0<=n) (h1:n<(len:Int)):
  (Instr.indexAt t (.pointer (some ⟨b,of,none⟩)) (.int k n)).run P w= .ok (.pointer (some ⟨b,of+n.toNat*ei.shs.length,none⟩)) w:=by
 simp[Instr.indexAt,run_underlying hu,Instr.sureAddr,asIntOf,h0,h1,run_sizeOf he,dM]
theorem bQ {t e:Nat} {ti:TI} (ht:TyOK P t ti) (hk:ti.kids= .slice e):P.underlying t=some (.slice e):=by
 obtain⟨dd,i,z,q1,q2,q3,q4,q5,q6,q7,q8,q9⟩:=ht.ex
 rw[hk]at q8
 cases dd<;>simp[cM]at q8
 rw[q1,q8]
theorem gU {t e len:Nat} {ti:TI} (ht:TyOK P t ti) (hk:ti.kids= .array len e):P.underlying t=some (.array len e):=by
 obtain⟨dd,i,z,q1,q2,q3,q4,q5,q6,q7,q8,q9⟩:=ht.ex
 rw[hk]at q8
 cases dd<;>simp[cM]at q8
 grind
theorem qW {t:Nat} {x i:Operand} (hT:bq P T) (r:RelL L st a w) (ho:o.op= .indexAddr t x i) (d:det T L mo st h (.indexAddr t x i) K):Out P st a w o K:=by
 simp only[det]at d
 split at d
 ·rename_i ti h1
  have ht:=hT.tl h1
  split at d
  ·rename_i e hk
   split at d
   ·rename_i ei h3
    have he:=hT.tl h3
    have hu:=bQ ht hk
    split at d
    ·rename_i k n h4
     obtain⟨vi,hci,hvi⟩:=aQ r.fr h4
     simp[AVal.conc]at hci
     split at d
     ·rename_i s len h5
      obtain⟨v,hc,hv⟩:=aQ r.fr h5
      obtain⟨⟨b0,b1⟩,hK⟩:=qH d
      simp only[AVal.conc,QS]at hc
      obtain⟨p,hp,hpv⟩:=hc
      refine⟨_,.pointer (some ⟨p.blk,0+n.toNat*ei.shs.length,none⟩),by simp[AVal.conc,hp],?_,hK⟩
      simp only[execOp,ho,hv,hvi,<-hci,<-hpv]
      rw[bU (jK hu he rfl b0 b1)];rfl
     ·rename_i y _ h5
      obtain⟨v,hc,hv⟩:=aQ r.fr h5
      obtain⟨a',l,c,hsv,b,of,ha,b0,b1,hK⟩:=cj d hc
      refine⟨.ptr b _,_,rfl,?_,hK⟩
      simp only[execOp,ho,hv,hvi,<-hci,hsv]
      rw[bU (jK hu he ha b0 b1)];rfl
     ·exact d.elim
    ·exact d.elim
   ·exact d.elim
  ·rename_i len e hk
   split at d
   ·rename_i ei h3
    have he:=hT.tl h3
    have hu:=gU ht hk
    split at d
    ·rename_i k n h4
     obtain⟨vi,hci,hvi⟩:=aQ r.fr h4
     simp[AVal.conc]at hci
     split at d
     ·rename_i y h5
      obtain⟨v,hc,hv⟩:=aQ r.fr h5
      rcases fG d hc with⟨b,of,hb,_,hk2⟩ | ⟨s,of,p,hp,rfl,hb,hk2⟩
      ·obtain⟨⟨b0,b1⟩,hK⟩:=qH hk2
       refine⟨.ptr b _,_,rfl,?_,hK⟩
       simp only[execOp,ho,hv,hvi,<-hci,hb]
       rw[bU (jL hu he b0 b1)];rfl
      ·obtain⟨⟨b0,b1⟩,hK⟩:=qH hk2
       refine⟨.loc s _,.pointer (some ⟨p.blk,of+n.toNat*ei.shs.length,none⟩),by simp[AVal.conc,hp],?_,hK⟩
       simp only[execOp,ho,hv,hvi,<-hci,hb]
       rw[bU (jL hu he b0 b1)];rfl
     ·exact d.elim
    ·exact d.elim
   ·exact d.elim
  ·exact d.elim
 ·exact d.elim
end
end Go.X
/- '==' of arrays of two plain cells. Conditions: the table of types is the program's. -/
namespace Go.X
section
variable {P:Program} {w:World}
def cH (d:TypeDesc) (x y:Value):Option Bool:=
 match d,x,y with
 | .int .i64,.int .i64 a,.int .i64 b=>some (a==b)
 | .float .f64,.float .f64 a,.float .f64 b=>some (FloatKind.f64.format.order a b==some .eq)
 | _,_,_=>none
theorem kh {n t:Nat} {d:TypeDesc} {x y:Value} {r:Bool} (hu:P.underlying t=some d) (h:cH d x y=some r):
  (Op.equalIn (n+1) t x y).run P w= .ok r w:=by
 unfold cH at h
 split at h
 ·simp at h;subst h;simp[Op.equalIn,run_underlying hu]
 ·simp at h;subst h;simp[Op.equalIn,run_underlying hu,Op.floatEq]
 ·simp at h
theorem gw {n t:Nat} {d:TypeDesc} {x y:Value} {r:Bool} (hu:P.underlying t=some d) (h:cH d x y=some r):
  (Op.eqGuardIn (n+1) t x y).run P w= .ok false w:=by
 unfold cH at h
 split at h
 ·simp[Op.eqGuardIn,run_underlying hu]
 ·simp[Op.eqGuardIn,run_underlying hu]
 ·simp at h
theorem bK {t:Nat} {ti:TI} (ht:TyOK P t ti) (ha:ti.agg=false) {cs:Array Value} {i:Nat} {v:Value} (h:cs[i]? =some v) (w:World):
  (part t cs i).run P w= .ok v w:=by
 simp[part,iR ht,ha,h]
theorem xW {n t e:Nat} {ei:TI} {d:TypeDesc} {xs ys:Array Value} {x0 x1 y0 y1:Value} {r0 r1:Bool} (hu:P.underlying t=some (.array 2 e)) (he:TyOK P e ei) (hs:ei.shs.length=1) (ha:ei.agg=false)
  (hd:P.underlying e=some d) (hx:xs=#[x0,x1]) (hy:ys=#[y0,y1]) (h0:cH d x0 y0=some r0) (h1:cH d x1 y1=some r1):
  (Op.equalIn (n+2) t (.agg xs) (.agg ys)).run P w= .ok (r0&&r1) w:=by
 subst hx;subst hy
 have p0:∀w,(part e #[x0,x1] 0).run P w= .ok x0 w:=bK he ha PC
 have p1:∀w,(part e #[x0,x1] 1).run P w= .ok x1 w:=bK he ha PC
 have q0:∀w,(part e #[y0,y1] 0).run P w= .ok y0 w:=bK he ha PC
 have q1:∀w,(part e #[y0,y1] 1).run P w= .ok y1 w:=bK he ha PC
 have e0:(Op.equalIn (n+1) e x0 y0).run P w= .ok r0 w:=kh hd h0
 have e1:(Op.equalIn (n+1) e x1 y1).run P w= .ok r1 w:=kh hd h1
 rw[Op.equalIn]
 simp[run_underlying hu,run_sizeOf he,hs,Std.Legacy.Range.forIn_eq_forIn_range',List.range',p0,p1,q0,q1,e0]
 cases r0<;>cases r1<;>simp[e1,p1,q1]
theorem xX {n t e:Nat} {ei:TI} {d:TypeDesc} {xs ys:Array Value} {x0 x1 y0 y1:Value} {r0 r1:Bool} (hu:P.underlying t=some (.array 2 e)) (he:TyOK P e ei) (hs:ei.shs.length=1) (ha:ei.agg=false)
  (hd:P.underlying e=some d) (hx:xs=#[x0,x1]) (hy:ys=#[y0,y1]) (h0:cH d x0 y0=some r0) (h1:cH d x1 y1=some r1):
  (Op.eqGuardIn (n+2) t (.agg xs) (.agg ys)).run P w= .ok false w:=by
 subst hx;subst hy
 have p0:∀w,(part e #[x0,x1] 0).run P w= .ok x0 w:=bK he ha PC
 have p1:∀w,(part e #[x0,x1] 1).run P w= .ok x1 w:=bK he ha PC
 have q0:∀w,(part e #[y0,y1] 0).run P w= .ok y0 w:=bK he ha PC
 have q1:∀w,(part e #[y0,y1] 1).run P w= .ok y1 w:=bK he ha PC
 have e0:(Op.eqGuardIn (n+1) e x0 y0).run P w= .ok false w:=gw hd h0
 have e1:(Op.eqGuardIn (n+1) e x1 y1).run P w= .ok false w:=gw hd h1
 rw[Op.eqGuardIn]
 simp[run_underlying hu,run_sizeOf he,hs,Std.Legacy.Range.forIn_eq_forIn_range',List.range',p0,p1,q0,q1,e0,e1]
theorem wb {n t e:Nat} {ei:TI} {d:TypeDesc} {f0 f1:Field} {xs ys:Array Value} {x0 x1 y0 y1:Value} {r0 r1:Bool} (hu:P.underlying t=some (.struct #[f0,f1])) (hst:P.stoodInHeld t=false)
  (hn0:f0.name≠ "_") (hn1:f1.name≠ "_") (ho0:f0.offset=0) (ho1:f1.offset=1) (ht0:f0.type=e) (ht1:f1.type=e) (he:TyOK P e ei) (ha:ei.agg=false)
  (hd:P.underlying e=some d) (hx:xs=#[x0,x1]) (hy:ys=#[y0,y1]) (h0:cH d x0 y0=some r0) (h1:cH d x1 y1=some r1):
  (Op.equalIn (n+2) t (.agg xs) (.agg ys)).run P w= .ok (r0&&r1) w:=by
 subst hx;subst hy
 have p0:∀w,(part e #[x0,x1] 0).run P w= .ok x0 w:=bK he ha PC
 have p1:∀w,(part e #[x0,x1] 1).run P w= .ok x1 w:=bK he ha PC
 have q0:∀w,(part e #[y0,y1] 0).run P w= .ok y0 w:=bK he ha PC
 have q1:∀w,(part e #[y0,y1] 1).run P w= .ok y1 w:=bK he ha PC
 have e0:(Op.equalIn (n+1) e x0 y0).run P w= .ok r0 w:=kh hd h0
 have e1:(Op.equalIn (n+1) e x1 y1).run P w= .ok r1 w:=kh hd h1
 rw[Op.equalIn]
 simp[run_underlying hu,hst,hn0,hn1,ho0,ho1,ht0,ht1,p0,p1,q0,q1,e0]
 cases r0<;>cases r1<;>simp[e1,p1,q1,hn1,ht1,ho1]
theorem wg {n t e:Nat} {ei:TI} {d:TypeDesc} {f0 f1:Field} {xs ys:Array Value} {x0 x1 y0 y1:Value} {r0 r1:Bool} (hu:P.underlying t=some (.struct #[f0,f1]))
  (hn0:f0.name≠ "_") (hn1:f1.name≠ "_") (ho0:f0.offset=0) (ho1:f1.offset=1) (ht0:f0.type=e) (ht1:f1.type=e) (he:TyOK P e ei) (ha:ei.agg=false)
  (hd:P.underlying e=some d) (hx:xs=#[x0,x1]) (hy:ys=#[y0,y1]) (h0:cH d x0 y0=some r0) (h1:cH d x1 y1=some r1):
  (Op.eqGuardIn (n+2) t (.agg xs) (.agg ys)).run P w= .ok false w:=by
 subst hx;subst hy
 have p0:∀w,(part e #[x0,x1] 0).run P w= .ok x0 w:=bK he ha PC
 have p1:∀w,(part e #[x0,x1] 1).run P w= .ok x1 w:=bK he ha PC
 have q0:∀w,(part e #[y0,y1] 0).run P w= .ok y0 w:=bK he ha PC
 have q1:∀w,(part e #[y0,y1] 1).run P w= .ok y1 w:=bK he ha PC
 have e0:(Op.eqGuardIn (n+1) e x0 y0).run P w= .ok false w:=gw hd h0
 have e1:(Op.eqGuardIn (n+1) e x1 y1).run P w= .ok false w:=gw hd h1
 rw[Op.eqGuardIn]
 simp[run_underlying hu,hn0,hn1,ho0,ho1,ht0,ht1,p0,p1,q0,q1,e0,e1]
theorem qX {op:BinOp} {t e:Nat} {x y:Operand} {ei:TI} {d:TypeDesc} {f0 f1:Field} {xs ys:Array Value} {x0 x1 y0 y1:Value} {r0 r1:Bool} (hu:P.underlying t=some (.struct #[f0,f1]))
  (hn0:f0.name≠ "_") (hn1:f1.name≠ "_") (ho0:f0.offset=0) (ho1:f1.offset=1) (ht0:f0.type=e) (ht1:f1.type=e) (he:TyOK P e ei) (ha:ei.agg=false)
  (hd:P.underlying e=some d) (hx:xs=#[x0,x1]) (hy:ys=#[y0,y1]) (h0:cH d x0 y0=some r0) (h1:cH d x1 y1=some r1):
  (eqGuard op t x y (.agg xs) (.agg ys)).run P w= .ok () w:=by
 have g:=wg (n:=9998) (w:=w) hu hn0 hn1 ho0 ho1 ht0 ht1 he ha hd hx hy h0 h1
 unfold eqGuard
 by_cases hg:P.eqGuardType P.depth t=true
 ·cases op<;>simp[hg,Op.maxDepth,g]
 ·cases op<;>simp[hg]
theorem uf {op:BinOp} {t e:Nat} {x y:Operand} {ei:TI} {d:TypeDesc} {xs ys:Array Value} {x0 x1 y0 y1:Value} {r0 r1:Bool} (hu:P.underlying t=some (.array 2 e)) (he:TyOK P e ei) (hs:ei.shs.length=1) (ha:ei.agg=false)
  (hd:P.underlying e=some d) (hx:xs=#[x0,x1]) (hy:ys=#[y0,y1]) (h0:cH d x0 y0=some r0) (h1:cH d x1 y1=some r1):
  (eqGuard op t x y (.agg xs) (.agg ys)).run P w= .ok () w:=by
 have g:=xX (n:=9998) (w:=w) hu he hs ha hd hx hy h0 h1
 unfold eqGuard
 by_cases hg:P.eqGuardType P.depth t=true
 ·cases op<;>simp[hg,Op.maxDepth,g]
 ·cases op<;>simp[hg]
end
end Go.X
/- The model's operation yields what 'det' says: comparisons, arithmetic, the rest; all together. Conditions: the table of types is the program's. -/
namespace Go.X
section
variable {P:Program} {T:TAB} {st:St} {h:ab} {a:Act} {w:World} {K:AVal->Prop} {o:Oper} {L:List Priv} {mo:Option (List Nat)}
theorem kj {t n:Nat} {d:TypeDesc} (h:ym P t d=n) (hn:0<n) (h9:n<9):kC d=n:=by
 cases d<;>simp only[ym]at h<;>try exact h
 grind
theorem KT {t:Nat} {d:TypeDesc} (h:ym P t d=9):∃f0 f1:Field,d= .struct #[f0,f1]/\f0.name≠ "_" /\f1.name≠ "_" /\P.stoodInHeld t=false:=by
 cases d<;>simp only[ym,kC]at h<;>try omega
 rename_i fs
 split at h
 ·rename_i f0 f1 hl
  split at h
  ·rename_i hc
   simp only[P6,bne_iff_ne,ne_eq,Rc]at hc
   refine⟨f0,f1,?_,hc.1.1,hc.1.2,hc.2⟩
   cases fs;simp_all
  ·omega
 ·omega
theorem lX {t:Nat} {ti:TI} (ht:TyOK P t ti) (hk:Nat.beq ti.tag 1=true):P.underlying t=some .bool:=by
 obtain⟨dd,i,z,q1,q2,q3,q4,q5,q6,q7,q8,q9⟩:=ht.ex
 have:=P4 hk
 have q9:=kj (q9.trans this) PA PA
 cases dd<;>simp[kC]at q9
 exact q1
theorem sG {t:Nat} {ti:TI} (ht:TyOK P t ti) (hk:Nat.beq ti.tag 2=true):∃e,P.underlying t=some (.slice e):=by
 obtain⟨dd,i,z,q1,q2,q3,q4,q5,q6,q7,q8,q9⟩:=ht.ex
 have:=P4 hk
 have q9:=kj (q9.trans this) PA PA
 cases dd<;>simp[kC]at q9
 grind
theorem jM {t:Nat} {ti:TI} (ht:TyOK P t ti) (hk:Nat.beq ti.tag 3=true):∃e,P.underlying t=some (.pointer e):=by
 obtain⟨dd,i,z,q1,q2,q3,q4,q5,q6,q7,q8,q9⟩:=ht.ex
 have:=P4 hk
 have q9:=kj (q9.trans this) PA PA
 cases dd<;>simp[kC]at q9
 grind
theorem wh {t:Nat} {ti:TI} (ht:TyOK P t ti) (hk:Nat.beq ti.tag 4=true):∃p r v,P.underlying t=some (.func p r v):=by
 obtain⟨dd,i,z,q1,q2,q3,q4,q5,q6,q7,q8,q9⟩:=ht.ex
 have:=P4 hk
 have q9:=kj (q9.trans this) PA PA
 cases dd<;>simp[kC]at q9
 grind
theorem zs {t:Nat} {ti:TI} (ht:TyOK P t ti) (hk:Nat.beq ti.tag 8=true):∃ms,P.underlying t=some (.interface ms):=by
 obtain⟨d,i,z,q1,q2,q3,q4,q5,q6,q7,q8,q9⟩:=ht.ex
 have:=kj (q9.trans (P4 hk)) PB PB
 cases d<;>simp[kC]at this
 grind
theorem ug (d:Nat) {t:Nat} {ms:Array (String × TypeId)} (hu:P.underlying t=some (.interface ms)):(Op.equalIn (d+1) t .nilIface .nilIface).run P w= .ok true w:=by
 simp[Op.equalIn,run_underlying hu]
theorem wi (d:Nat) {t:Nat} {ms:Array (String × TypeId)} (hu:P.underlying t=some (.interface ms)) (u:Nat) (v:Value):(Op.equalIn (d+1) t (.iface u v) .nilIface).run P w= .ok false w:=by
 simp[Op.equalIn,run_underlying hu]
theorem wj {t:Nat} {ms:Array (String × TypeId)} (hu:P.underlying t=some (.interface ms)):(Op.equal t .nilIface .nilIface).run P w= .ok true w:=ug 9999 hu
theorem xY {t:Nat} {ms:Array (String × TypeId)} (hu:P.underlying t=some (.interface ms)) (u:Nat) (v:Value):(Op.equal t (.iface u v) .nilIface).run P w= .ok false w:=wi 9999 hu u v
theorem HO {op:BinOp} {t:Nat} {k k':IntKind} {x y:Int} (h:AR op k k' x y K):
  ∃v,(binOp op t (.int k x) (.int k' y)).run P w= .ok v w/\K (.val v):=by
 by_cases hs:op= .shl\/op= .shr
 ·rcases hs with rfl | rfl
  ·simp only[AR,iop]at h
   have hn:¬y<0:=by omega
   exact⟨_,by simp[binOp_shl,Op.shift,hn],h.2⟩
  ·simp only[AR,iop]at h
   have hn:¬y<0:=by omega
   exact⟨_,by simp[binOp_shr,Op.shift,hn],h.2⟩
 have hk:kW k k' (iop op k x y K):=by cases op<;>first | exact h | exact absurd (.inl rfl) hs | exact absurd (.inr rfl) hs
 clear h
 have h0:=nN hk;clear hk;obtain⟨he,h⟩:=h0;subst he
 cases op<;>simp only[iop]at h
 case add=>exact⟨_,by simp[binOp_add,Op.intArith],h⟩
 case sub=>exact⟨_,by simp[binOp_sub,Op.intArith],h⟩
 case mul=>exact⟨_,by simp[binOp_mul,Op.intArith],h⟩
 case quo=>exact⟨_,by simp[binOp_quo,Op.intDiv,h.1],h.2⟩
 case rem=>exact⟨_,by simp[binOp_rem,Op.intDiv,h.1],h.2⟩
 case eql=>exact⟨_,by simp[binOp_eql],h⟩
 case neq=>exact⟨_,by simp[binOp_neq],h⟩
 case lss=>exact⟨_,by simp[binOp_lss],h⟩
 case leq=>exact⟨_,by simp[binOp_leq],h⟩
 case gtr=>exact⟨_,by simp[binOp_gtr],h⟩
 case geq=>exact⟨_,by simp[binOp_geq],h⟩
 case and=>exact⟨_,by simp[binOp_and,intBits_and],h⟩
 case or=>exact⟨_,by simp[binOp_or,intBits_or],h⟩
 case xor=>exact⟨_,by simp[binOp_xor,intBits_xor],h⟩
 case andNot=>exact⟨_,by simp[binOp_andNot,intBits_andNot],h⟩
 case shl=>
  grind
 grind
theorem AA {op:BinOp} {t:Nat} {k k':FloatKind} {x y:Nat} (h:im k k' (AU op k x y K)):
  ∃v,(binOp op t (.float k x) (.float k' y)).run P w= .ok v w/\K (.val v):=by
 have h0:=je h;clear h;obtain⟨he,h⟩:=h0;subst he
 cases op<;>simp only[AU]at h<;>first | exact h.elim | exact⟨_,by simp[binOp,Op.floatCmp],h⟩
theorem uh (d:Nat) {t:Nat} (hu:P.underlying t=some .bool) (x y:Bool):(Op.equalIn (d+1) t (.bool x) (.bool y)).run P w= .ok (x==y) w:=by
 simp[Op.equalIn,run_underlying hu]
theorem qY (d:Nat) {t e:Nat} (hu:P.underlying t=some (.slice e)) (x:PY) (l c l' c':Nat):(Op.equalIn (d+1) t (.slice x l c) (.slice none l' c')).run P w= .ok x.isNone w:=by
 cases x<;>simp[Op.equalIn,run_underlying hu]
theorem oa (d:Nat) {t e:Nat} (hu:P.underlying t=some (.pointer e)) (x:PY):(Op.equalIn (d+1) t (.pointer x) (.pointer none)).run P w= .ok x.isNone w:=by
 cases x<;>simp[Op.equalIn,run_underlying hu]
theorem ui (d:Nat) {t:Nat} {p r:Array Nat} {v:Bool} (hu:P.underlying t=some (.func p r v)) (f:Fn) (x y:Array Value):(Op.equalIn (d+1) t (.func f x y) .nilFunc).run P w= .ok false w:=by
 simp[Op.equalIn,run_underlying hu]
theorem il {t:Nat} (hu:P.underlying t=some .bool) (x y:Bool):(Op.equal t (.bool x) (.bool y)).run P w= .ok (x==y) w:=uh 9999 hu x y
theorem lY {t e:Nat} (hu:P.underlying t=some (.slice e)) (x:PY) (l c l' c':Nat):(Op.equal t (.slice x l c) (.slice none l' c')).run P w= .ok x.isNone w:=qY 9999 hu x l c l' c'
theorem gV {t e:Nat} (hu:P.underlying t=some (.pointer e)) (x:PY):(Op.equal t (.pointer x) (.pointer none)).run P w= .ok x.isNone w:=oa 9999 hu x
theorem wk {t:Nat} {p r:Array Nat} {v:Bool} (hu:P.underlying t=some (.func p r v)) (f:Fn) (x y:Array Value):(Op.equal t (.func f x y) .nilFunc).run P w= .ok false w:=ui 9999 hu f x y
theorem uj (n:Nat) {t:Nat} {p r:Array Nat} {v:Bool} (hu:P.underlying t=some (.func p r v)):(Op.equalIn (n+1) t .nilFunc .nilFunc).run P w= .ok true w:=by
 simp[Op.equalIn,run_underlying hu]
theorem wm {t:Nat} {p r:Array Nat} {v:Bool} (hu:P.underlying t=some (.func p r v)):(Op.equal t .nilFunc .nilFunc).run P w= .ok true w:=uj 9999 hu
theorem cA {op:BinOp} {t:Nat} {x y:Value} {r:Bool} (h:dG op r K) (he:(Op.equal t x y).run P w= .ok r w)
  (hb:binOp .eql t x y=(do pure (.bool (<-Op.equal t x y)))) (hb':binOp .neq t x y=(do pure (.bool (!(<-Op.equal t x y))))):
  ∃v,(binOp op t x y).run P w= .ok v w/\K (.val v):=by
 cases op<;>simp only[dG]at h<;>try exact h.elim
 ·simp_all
 simp_all
theorem nH {e:Nat} {ei:TI} {a b:Array Value} {r:Bool} (ht:TyOK P e ei) (h:uv ei a.toList b.toList=some r):
  ∃d x0 x1 y0 y1 r0 r1,P.underlying e=some d/\a=#[x0,x1]/\b=#[y0,y1]/\cH d x0 y0=some r0/\cH d x1 y1=some r1/\r=(r0&&r1):=by
 obtain⟨dd,i,z,q1,q2,q3,q4,q5,q6,q7,q8,q9⟩:=ht.ex
 obtain⟨a⟩:=a
 obtain⟨b⟩:=b
 simp only at h
 unfold uv at h
 split at h
 ·rename_i hk
  rw[hk]at q8
  cases dd<;>simp[cM]at q8
  subst q8
  split at h
  ·simp at h;subst h
   refine⟨_,_,_,_,_,_,_,q1,rfl,rfl,rfl,rfl,rfl⟩
  ·simp at h
 ·rename_i hk
  rw[hk]at q8
  cases dd<;>simp[cM]at q8
  subst q8
  split at h
  ·simp at h;subst h
   refine⟨_,_,_,_,_,_,_,q1,rfl,rfl,rfl,rfl,rfl⟩
  ·simp at h
 ·simp at h
def xZ (u:Value):Prop:=match u with | .nilIface | .agg _=>False | _=>True
theorem mW (op:BinOp) (t:Nat) (x y:Operand) (u v:Value) (hu:xZ u):
  eqGuard op t x y u v=pure ():=by
 cases u<;>simp only[xZ]at hu<;>cases op<;>rfl
theorem AB {op:BinOp} {t u:Nat} {x y:Operand} (hT:bq P T) (r:RelL L st a w) (ho:o.op= .binOp op t x y u) (d:det T L mo st h (.binOp op t x y u) K):Out P st a w o K:=by
 simp only[det]at d
 split at d
 ·rename_i ti h1
  have ht:=hT.tl h1
  split at d
  ·rename_i vx h2
   split at d
   ·rename_i vy h3
    split at d
    ·rename_i hty
     obtain⟨ux,hcx,hx⟩:=aQ r.fr h2
     obtain⟨uy,hcy,hy⟩:=aQ r.fr h3
     have key:∀(g:xZ ux) (v:Value),(binOp op t ux uy).run P w= .ok v w->K (.val v)->Out P st a w o K:=by
      intro g v hv hk
      exact aV (by simp only[execOp,ho,hx,hy,mW op t x y ux uy g];simp[hv]) hk
     unfold ER at d
     split at d
     ·split at d
      ·split at d
       ·rename_i _ _ cv
        simp[AVal.conc]at hcx hcy;subst hcx;subst hcy
        obtain⟨ms,hu⟩:∃ms,P.underlying t=some (.interface ms):=by
         refine zs ht ?_
         cases op<;>simp[dG]at d<;>simpa[mu]using hty
        obtain⟨v,e1,e2⟩:=cA (P:=P) (w:=w) (t:=t) d (wj hu) PF PF
        have hg:(eqGuard op t x (.const cv) .nilIface .nilIface).run P w= .ok () w:=by
         cases op<;>simp[eqGuard]
        refine aV ?_ e2
        simp only[execOp,ho,hx,hy]
        simp[hg,e1]
       ·exact d.elim
      ·exact d.elim
     ·split at d
      ·simp[AVal.conc]at hcx hcy;subst hcx;subst hcy
       obtain⟨ms,hu⟩:∃ms,P.underlying t=some (.interface ms):=by
        refine zs ht ?_
        cases op<;>simp[dG]at d<;>simpa[mu]using hty
       obtain⟨v,e1,e2⟩:=cA (P:=P) (w:=w) (t:=t) d (xY hu _ _) PF PF
       exact key trivial v e1 e2
      ·exact d.elim
     unfold EQ at d
     split at d
     ·split at d
      ·split at d
       ·split at d
        ·rename_i n e _ hk _ hn
         split at d
         ·rename_i ei he
          split at d
          ·rename_i hc
           split at d
           ·rename_i ax ay r hp
            simp[AVal.conc]at hcx hcy;subst hcx;subst hcy
            simp only[P6,Rc]at hc
            have hn:=P4 hn;subst hn
            have hc1:=P4 hc.1
            obtain⟨d',x0,x1,y0,y1,r0,r1,g1,g2,g3,g4,g5,g6⟩:=nH (hT.tl he) hp
            have hu:=gU ht hk
            have hq:(Op.equal t (.agg _) (.agg _)).run P w= .ok (r0&&r1) w:=xW (n:=9998) hu (hT.tl he) hc1 hc.2 g1 g2 g3 g4 g5
            subst g6
            obtain⟨v,e1,e2⟩:=cA (P:=P) (w:=w) (t:=t) d hq PF PF
            refine aV ?_ e2
            simp only[execOp,ho,hx,hy]
            simp[uf (op:=op) (w:=w) (x:=x) (y:=y) hu (hT.tl he) hc1 hc.2 g1 g2 g3 g4 g5,e1]
           ·exact d.elim
          ·exact d.elim
         ·exact d.elim
        ·exact d.elim
       ·rename_i o0 e0 o1 e1 hk
        split at d
        ·rename_i hcs
         simp only[P6]at hcs
         obtain⟨⟨⟨c9,c0⟩,c1⟩,ce⟩:=hcs
         have c9:=P4 c9
         have c0:=P4 c0
         have c1:=P4 c1
         have ce:=P4 ce
         subst c0;subst c1;subst ce
         split at d
         ·rename_i ei he
          split at d
          ·rename_i hc
           split at d
           ·rename_i ax ay r hp
            simp[AVal.conc]at hcx hcy;subst hcx;subst hcy
            simp only[P6,Rc]at hc
            obtain⟨d',x0,x1,y0,y1,r0,r1,g1,g2,g3,g4,g5,g6⟩:=nH (hT.tl he) hp
            obtain⟨dd,i,z,q1,q2,q3,q4,q5,q6,q7,q8,q9⟩:=ht.ex
            obtain⟨f0,f1,e1,n0,n1,hst⟩:=KT (q9.trans c9)
            subst e1
            rw[hk]at q8
            simp[cM]at q8
            obtain⟨⟨o0,t0⟩,o1,t1⟩:=q8
            have hq:(Op.equal t (.agg _) (.agg _)).run P w= .ok (r0&&r1) w:=wb (n:=9998) q1 hst n0 n1 o0 o1 t0 t1 (hT.tl he) hc.2 g1 g2 g3 g4 g5
            subst g6
            obtain⟨v,e1,e2⟩:=cA (P:=P) (w:=w) (t:=t) d hq PF PF
            refine aV ?_ e2
            simp only[execOp,ho,hx,hy]
            simp[qX (op:=op) (w:=w) (x:=x) (y:=y) q1 n0 n1 o0 o1 t0 t1 (hT.tl he) hc.2 g1 g2 g3 g4 g5,e1]
           ·exact d.elim
          ·exact d.elim
         ·exact d.elim
        ·exact d.elim
       ·exact d.elim
      ·exact d.elim
     unfold bop at d
     split at d
     ·simp[AVal.conc]at hcx hcy;subst hcx;subst hcy
      obtain⟨v,e1,e2⟩:=HO (P:=P) (w:=w) (t:=t) d
      exact key trivial v e1 e2
     ·simp[AVal.conc]at hcx hcy;subst hcx;subst hcy
      obtain⟨v,e1,e2⟩:=AA (P:=P) (w:=w) (t:=t) d
      exact key trivial v e1 e2
     ·simp[AVal.conc]at hcx hcy;subst hcx;subst hcy
      have hu:P.underlying t=some .bool:=by
       refine lX ht ?_
       cases op<;>simp[dG]at d<;>simpa[mu]using hty
      obtain⟨v,e1,e2⟩:=cA (P:=P) (w:=w) (t:=t) d (il hu _ _) PF PF
      exact key trivial v e1 e2
     ·simp[AVal.conc]at hcx hcy;subst hcx;subst hcy
      have hu:P.underlying t=some .bool:=by
       refine lX ht ?_
       cases op<;>simp[dG]at d<;>simpa[mu]using hty
      obtain⟨v,e1,e2⟩:=cA (P:=P) (w:=w) (t:=t) d (il hu _ _) PF PF
      exact key trivial v e1 e2
     ·simp[AVal.conc]at hcx hcy;subst hcx;subst hcy
      have hu:P.underlying t=some .bool:=by
       refine lX ht ?_
       cases op<;>simp[dG]at d<;>simpa[mu]using hty
      obtain⟨v,e1,e2⟩:=cA (P:=P) (w:=w) (t:=t) d (il hu _ _) PF PF
      exact key trivial v e1 e2
     ·simp[AVal.conc]at hcx hcy;subst hcx;subst hcy
      have hu:P.underlying t=some .bool:=by
       refine lX ht ?_
       cases op<;>simp[dG]at d<;>simpa[mu]using hty
      obtain⟨v,e1,e2⟩:=cA (P:=P) (w:=w) (t:=t) d (il hu _ _) PF PF
      exact key trivial v e1 e2
     ·simp[AVal.conc]at hcx hcy;subst hcx;subst hcy
      cases op<;>simp only[EP]at d<;>try exact d.elim
      ·obtain⟨d1,d2⟩:=d
       have hk:IntKind.i64.max=9223372036854775807:=rfl
       refine key trivial _ ?_ d2
       simp only[binOp,Op.stringOp]
       simp_all
      ·exact key trivial _ (by simp[binOp,Op.stringOp]) d
      ·exact key trivial _ (by simp[binOp,Op.stringOp]) d
     ·simp[AVal.conc]at hcx hcy;subst hcx;subst hcy
      obtain⟨e,hu⟩:∃e,P.underlying t=some (.slice e):=by
       refine sG ht ?_
       cases op<;>simp[dG]at d<;>simpa[mu]using hty
      obtain⟨v,e1,e2⟩:=cA (P:=P) (w:=w) (t:=t) d (lY hu _ _ _ _ _) PF PF
      exact key trivial v e1 e2
     ·simp[AVal.conc]at hcx hcy;subst hcx;subst hcy
      obtain⟨e,hu⟩:∃e,P.underlying t=some (.slice e):=by
       refine sG ht ?_
       cases op<;>simp[dG]at d<;>simpa[mu]using hty
      obtain⟨v,e1,e2⟩:=cA (P:=P) (w:=w) (t:=t) d (lY hu (some _) _ _ _ _) PF PF
      exact key trivial v e1 e2
     ·simp[AVal.conc]at hcx hcy;subst hcx;subst hcy
      obtain⟨e,hu⟩:∃e,P.underlying t=some (.pointer e):=by
       refine jM ht ?_
       cases op<;>simp[dG]at d<;>simpa[mu]using hty
      obtain⟨v,e1,e2⟩:=cA (P:=P) (w:=w) (t:=t) d (gV hu _) PF PF
      exact key trivial v e1 e2
     ·simp[AVal.conc]at hcx hcy;subst hcx;subst hcy
      obtain⟨e,hu⟩:∃e,P.underlying t=some (.pointer e):=by
       refine jM ht ?_
       cases op<;>simp[dG]at d<;>simpa[mu]using hty
      obtain⟨v,e1,e2⟩:=cA (P:=P) (w:=w) (t:=t) d (gV hu (some _)) PF PF
      exact key trivial v e1 e2
     ·simp only[AVal.conc,QS,Option.some.injEq]at hcx hcy
      obtain⟨p,_,rfl⟩:=hcx
      subst hcy
      obtain⟨e,hu⟩:∃e,P.underlying t=some (.pointer e):=by
       refine jM ht ?_
       cases op<;>simp[dG]at d<;>simpa[mu]using hty
      obtain⟨v,e1,e2⟩:=cA (P:=P) (w:=w) (t:=t) d (gV hu (some _)) PF PF
      exact key trivial v e1 e2
     ·simp[AVal.conc]at hcx hcy;subst hcx;subst hcy
      obtain⟨p,q,s,hu⟩:∃p q s,P.underlying t=some (.func p q s):=by
       refine wh ht ?_
       cases op<;>simp[dG]at d<;>simpa[mu]using hty
      obtain⟨v,e1,e2⟩:=cA (P:=P) (w:=w) (t:=t) d (wk hu _ _ _) PF PF
      exact key trivial v e1 e2
     ·simp[AVal.conc]at hcx hcy;subst hcx;subst hcy
      obtain⟨p,q,s,hu⟩:∃p q s,P.underlying t=some (.func p q s):=by
       refine wh ht ?_
       cases op<;>simp[dG]at d<;>simpa[mu]using hty
      obtain⟨v,e1,e2⟩:=cA (P:=P) (w:=w) (t:=t) d (wm hu) PF PF
      exact key trivial v e1 e2
     ·exact d.elim
    ·exact d.elim
   ·exact d.elim
  ·exact d.elim
 ·exact d.elim
end
end Go.X
/- 'det' is sound, all operations. Conditions: the table of types is the program's. -/
namespace Go.X
section
variable {P:Program} {T:TAB} {st:St} {h:ab} {a:Act} {w:World} {K:AVal->Prop} {o:Oper} {L:List Priv} {mo:Option (List Nat)}
theorem bo {x:Operand} {v:Value} (r:RelL L st a w) (h:ev st x=some (.val v)):a.eval x=v:=by
 obtain⟨u,h1,h2⟩:=aQ r.fr h
 simp[AVal.conc]at h1
 rw[h2,h1]
theorem yb {x:Operand} {b:Bool} (r:RelL L st a w) (h:ev st x=some (.lit b)):a.eval x= .bool b:=by
 obtain⟨u,h1,h2⟩:=aQ r.fr h
 simp[AVal.conc]at h1
 rw[h2,h1]
theorem wn {x:Operand} (r:RelL L st a w) (ho:o.op= .move x\/o.op= .assign x) (d:det T L mo st h (.move x) K):Out P st a w o K:=by
 simp only[det]at d
 split at d
 ·rename_i y h2
  obtain⟨v,hc,hv⟩:=aQ r.fr h2
  exact⟨y,v,hc,by rcases ho with ho | ho<;>simp[execOp,ho,hv],d⟩
 ·exact d.elim
theorem Ev {c x y:Operand} (r:RelL L st a w) (ho:o.op= .pick c x y) (d:det T L mo st h (.pick c x y) K):Out P st a w o K:=by
 simp only[det]at d
 split at d
 ·rename_i h1
  have e1:=yb r h1
  split at d
  ·rename_i y h2
   obtain⟨v,hc,hv⟩:=aQ r.fr h2
   exact⟨y,v,hc,by simp[execOp,ho,hv,e1,asBool],d⟩
  ·exact d.elim
 ·rename_i h1
  have e1:=yb r h1
  split at d
  ·rename_i y h2
   obtain⟨v,hc,hv⟩:=aQ r.fr h2
   exact⟨y,v,hc,by simp[execOp,ho,hv,e1,asBool],d⟩
  ·exact d.elim
 ·exact d.elim
theorem Ew {op:UnOp} {t:Nat} {x:Operand} (r:RelL L st a w) (ho:o.op= .unOp op t x) (d:det T L mo st h (.unOp op t x) K):Out P st a w o K:=by
 simp only[det]at d
 split at d
 ·rename_i h1
  have e1:=yb r h1
  split at d
  ·exact⟨.lit _,_,rfl,by simp[execOp,ho,e1,Op.unary],d⟩
  ·exact d.elim
 ·rename_i h1
  have e1:=bo r h1
  split at d
  ·exact aV (by simp[execOp,ho,e1,Op.unary]) d
  ·exact d.elim
 ·rename_i h1
  have e1:=bo r h1
  split at d
  ·exact aV (by simp[execOp,ho,e1,Op.unary,Op.intArith]) d
  ·exact d.elim
 ·rename_i h1
  have e1:=bo r h1
  split at d
  ·exact aV (by simp[execOp,ho,e1,Op.unary]) d
  ·exact d.elim
 ·exact d.elim
theorem wo {s t:Nat} {x:Operand} (hT:bq P T) (r:RelL L st a w) (ho:o.op= .convert s t x) (d:det T L mo st h (.convert s t x) K):Out P st a w o K:=by
 simp only[det]at d
 split at d
 ·rename_i si h0
  obtain⟨ds,_,_,hds,_⟩:=(hT.tl h0).ex
  split at d
  ·rename_i ti h1
   obtain⟨dd,i,z,q1,q2,q3,q4,q5,q6,q7,q8,q9⟩:=(hT.tl h1).ex
   split at d
   ·rename_i k hk
    rw[hk]at q8
    have hd:dd= .int k:=by cases dd<;>simp[cM]at q8;rw[q8]
    subst hd
    split at d
    ·rename_i h2
     have e1:=bo r h2
     exact aV (by simp[execOp,ho,e1,convert,run_underlying hds,run_underlying q1,Conv.intToInt]) d
    ·exact d.elim
   ·rename_i k hk
    rw[hk]at q8
    have hd:dd= .float k:=by cases dd<;>simp[cM]at q8;rw[q8]
    subst hd
    split at d
    ·rename_i h2
     have e1:=bo r h2
     exact aV (by simp[execOp,ho,e1,convert,run_underlying hds,run_underlying q1,Conv.intToFloat]) d
    ·exact d.elim
   ·exact d.elim
  ·exact d.elim
 ·exact d.elim
theorem eH {t:Nat} {ti:TI} (ht:TyOK P t ti) (hk:Nat.beq ti.tag 5=true):P.underlying t=some .string:=by
 obtain⟨dd,i,z,q1,q2,q3,q4,q5,q6,q7,q8,q9⟩:=ht.ex
 have h5:=P4 hk
 have:=kj (q9.trans h5) PB PB
 cases dd<;>simp[kC]at this
 exact q1
theorem wq {x:Operand} {i:Nat} (r:RelL L st a w) (ho:o.op= .extract x i) (d:det T L mo st h (.extract x i) K):Out P st a w o K:=by
 simp only[det]at d
 split at d
 ·rename_i vs h1
  have e1:=bo r h1
  split at d
  ·rename_i v h2
   exact aV (by simp[execOp,ho,e1,Instr.extract,h2]) d
  ·exact d.elim
 ·exact d.elim
theorem lZ {l:Array Operand} {vs:List Value} (r:RelL L st a w) (h:rj st l.toList=some vs):l.map a.eval=vs.toArray:=by
 apply Array.ext'
 simpa using sO r.fr h
theorem uk {fn:Fn} {first captured:Array Operand} (r:RelL L st a w) (ho:o.op= .makeFunc fn first captured) (d:det T L mo st h (.makeFunc fn first captured) K):Out P st a w o K:=by
 simp only[det]at d
 split at d
 ·rename_i f h1
  split at d
  ·rename_i c h2
   exact aV (by simp[execOp,ho,Instr.makeFunc,lZ r h1,lZ r h2]) d
  ·exact d.elim
 ·exact d.elim
theorem ma {t:Nat} {x:Operand} (hT:bq P T) (r:RelL L st a w) (ho:o.op= .makeInterface t x) (d:det T L mo st h (.makeInterface t x) K):Out P st a w o K:=by
 simp only[det]at d
 split at d
 ·rename_i ti h1
  obtain⟨dd,i,z,q1,q2,q3,q4,q5,q6,q7,q8,q9⟩:=(hT.tl h1).ex
  split at d
  ·exact d.elim
  ·rename_i hn
   split at d
   ·rename_i v h2
    have e1:=bu r.fr h2
    have hi:∀ms,dd≠ .interface ms:=by
     rintro ms rfl
     have:ti.tag=8:=by rw[<-q9];rfl
     simp_all
    refine aV ?_ d
    simp only[execOp,ho,e1,Instr.makeInterface]
    cases dd<;>first | exact absurd rfl (hi _) | simp[run_underlying q1]
   ·exact d.elim
 ·exact d.elim
theorem AC {t f:Nat} {x:Operand} (hT:bq P T) (r:RelL L st a w) (ho:o.op= .field t x f) (d:det T L mo st h (.field t x f) K):Out P st a w o K:=by
 simp only[det]at d
 split at d
 ·rename_i shs agg by_ ze fs tg h1
  obtain⟨dd,i,z,q1,q2,q3,q4,q5,q6,q7,q8,q9⟩:=(hT.tl h1).ex
  split at d
  ·rename_i off ft h2
   split at d
   ·rename_i fi h3
    have hft:=hT.tl h3
    split at d
    ·rename_i cs h4
     have e1:=bo r h4
     have hd:∃F,dd= .struct F/\fs=F.toList.map fun f=>(f.offset,f.type):=by
      cases dd<;>simp[cM]at q8
      grind
     obtain⟨F,rfl,hfs⟩:=hd
     rw[hfs]at h2
     obtain⟨fd,hfd,g1,g2⟩:=zr h2
     have hs:=run_sizeOf (P:=P) hft w
     have ha:=iR (P:=P) hft w
     rw[<-g2]at hs ha
     split at d
     ·rename_i hagg
      rw[hagg]at ha
      exact aV (by simp[execOp,ho,e1,Instr.field,run_underlying q1,hfd,asAgg,part,ha,hs,g1]) d
     ·rename_i hagg
      rw[hagg]at ha
      split at d
      ·rename_i v hv
       exact aV (by simp[execOp,ho,e1,Instr.field,run_underlying q1,hfd,asAgg,part,ha,g1,hv]) d
      ·exact d.elim
    ·exact d.elim
   ·exact d.elim
  ·exact d.elim
 ·exact d.elim
theorem AE {t:Nat} {x i:Operand} (hT:bq P T) (r:RelL L st a w) (ho:o.op= .index t x i) (d:det T L mo st h (.index t x i) K):Out P st a w o K:=by
 simp only[det]at d
 split at d
 ·rename_i ti h1
  have ht:=hT.tl h1
  split at d
  ·rename_i len e hk
   have hu:=gU ht hk
   split at d
   ·rename_i s _ _ _ _ h3
    have he:=hT.tl h3
    split at d
    ·rename_i k n h4
     have e1:=bo r h4
     split at d
     ·rename_i cs h5
      have e2:=bo r h5
      obtain⟨b0,b1,d⟩:=d
      obtain⟨v,_,hv,hk2⟩:=Sh.ex_elim d
      have hs:=run_sizeOf (P:=P) he w
      have ha:=iR (P:=P) he w
      exact aV (by simp[execOp,ho,e1,e2,Instr.index,asIntOf,run_underlying hu,b0,b1,hs,part,ha,hv]) hk2
     ·exact d.elim
    ·exact d.elim
   ·exact d.elim
  ·split at d
   ·rename_i hk
    have hu:=eH ht hk
    split at d
    ·rename_i k n h4
     have e1:=bo r h4
     split at d
     ·rename_i s h5
      have e2:=bo r h5
      obtain⟨b0,b1,c,hc,hk2⟩:=d
      exact aV (by simp[execOp,ho,e1,e2,Instr.index,asIntOf,run_underlying hu,b0,hc]) hk2
     ·exact d.elim
    ·exact d.elim
   ·exact d.elim
  ·exact d.elim
 ·exact d.elim
theorem cC {x:Option Operand} {dflt y:Nat} {L':Nat->Prop} {code:BoundsCode} (r:RelL L st a w) (h:eJ x st dflt y L'):
  ∃n,L' n/\((x=none/\n=dflt)\/(∃u,x=some u/\(Instr.sliceBound (a.eval u) y code).run P w= .ok n w)):=by
 cases x with
 | none=>exact⟨dflt,h,.inl ⟨rfl,rfl⟩⟩
 | some u=>
  simp only[eJ]at h
  split at h
  ·rename_i k n h1
   have e1:=bo r h1
   exact⟨n.toNat,h.2.2,.inr ⟨u,rfl,by simp[Instr.sliceBound,e1,asIntOf,h.1,h.2.1]⟩⟩
  ·exact h.elim
theorem AG {t:Nat} {x:Operand} {lo hi:Option Operand} (hT:bq P T) (r:RelL L st a w) (ho:o.op= .slice t x lo hi none) (d:det T L mo st h (.slice t x lo hi none) K):Out P st a w o K:=by
 simp only[det]at d
 split at d
 ·rename_i ti h1
  have ht:=hT.tl h1
  split at d
  ·rename_i e hk
   have hu:=bQ ht hk
   split at d
   ·rename_i ei h3
    have he:=hT.tl h3
    split at d
    ·rename_i y h4
     obtain⟨v,hc,hv⟩:=aQ r.fr h4
     obtain⟨aa,l,c,hsv,d⟩:=cj d hc
     obtain⟨hh,d,q1⟩:=cC (P:=P) (code:=.sliceAcap) r d
     obtain⟨ll,d,q2⟩:=cC (P:=P) (code:=.sliceB) r d
     have hb:(Instr.sliceBounds true l c (lo.map a.eval) (hi.map a.eval) none).run P w= .ok (ll,hh,c) w:=by
      rcases q1 with⟨rfl,rfl⟩ | ⟨u,rfl,q1⟩<;>rcases q2 with⟨rfl,rfl⟩ | ⟨u',rfl,q2⟩<;>simp[Instr.sliceBounds, *]
     refine aV ?_ d
     simp[execOp,ho,hv,hsv,Instr.sliceAt,run_underlying hu,Instr.slice,hb,run_sizeOf he]
    ·exact d.elim
   ·exact d.elim
  ·split at d
   ·rename_i hk
    have hu:=eH ht hk
    split at d
    ·rename_i s h5
     have e2:=bo r h5
     obtain⟨hh,d,q1⟩:=cC (P:=P) (code:=.sliceAlen) r d
     obtain⟨ll,d,q2⟩:=cC (P:=P) (code:=.sliceB) r d
     have hb:(Instr.sliceBounds false s.size s.size (lo.map a.eval) (hi.map a.eval) none).run P w= .ok (ll,hh,s.size) w:=by
      rcases q1 with⟨rfl,rfl⟩ | ⟨u,rfl,q1⟩<;>rcases q2 with⟨rfl,rfl⟩ | ⟨u',rfl,q2⟩<;>simp[Instr.sliceBounds, *]
     refine aV ?_ d
     simp[execOp,ho,e2,Instr.sliceAt,run_underlying hu,Instr.slice,hb]
    ·exact d.elim
   ·exact d.elim
  ·rename_i n e hk
   have hu:=gU ht hk
   split at d
   ·rename_i ei h3
    have he:=hT.tl h3
    split at d
    ·rename_i y h4
     obtain⟨v,hc,hv⟩:=aQ r.fr h4
     rcases fG d hc with⟨b,oo,rfl,_,d⟩ | ⟨_,_,_,_,_,_,d⟩
     ·obtain⟨hh,d,q1⟩:=cC (P:=P) (code:=.sliceAlen) r d
      obtain⟨ll,d,q2⟩:=cC (P:=P) (code:=.sliceB) r d
      have hb:(Instr.sliceBounds false n n (lo.map a.eval) (hi.map a.eval) none).run P w= .ok (ll,hh,n) w:=by
       rcases q1 with⟨rfl,rfl⟩ | ⟨u,rfl,q1⟩<;>rcases q2 with⟨rfl,rfl⟩ | ⟨u',rfl,q2⟩<;>simp[Instr.sliceBounds, *]
      refine aV ?_ d
      simp[execOp,ho,hv,Instr.sliceAt,run_underlying hu,hb,run_sizeOf he,Instr.sureAddr]
     ·exact d.elim
    ·exact d.elim
   ·exact d.elim
  ·exact d.elim
 ·exact d.elim
theorem yc {t:Nat} {x hi mx:Operand} {lo:Option Operand} (hT:bq P T) (r:RelL L st a w) (ho:o.op= .slice t x lo (some hi) (some mx)) (d:det T L mo st h (.slice t x lo (some hi) (some mx)) K):Out P st a w o K:=by
 simp only[det]at d
 split at d
 ·rename_i ti h1
  have ht:=hT.tl h1
  split at d
  ·rename_i e hk
   have hu:=bQ ht hk
   split at d
   ·rename_i ei h3
    have he:=hT.tl h3
    split at d
    ·rename_i y h4
     obtain⟨v,hc,hv⟩:=aQ r.fr h4
     obtain⟨aa,l,c,hsv,d⟩:=cj d hc
     obtain⟨mm,d,q0⟩:=cC (P:=P) (code:=.slice3Acap) r d
     obtain⟨hh,d,q1⟩:=cC (P:=P) (code:=.slice3B) r d
     obtain⟨ll,d,q2⟩:=cC (P:=P) (code:=.slice3C) r d
     have hb:(Instr.sliceBounds true l c (lo.map a.eval) (some (a.eval hi)) (some (a.eval mx))).run P w= .ok (ll,hh,mm) w:=by
      rcases q0 with⟨h0,_⟩ | ⟨u0,h0,q0⟩
      ·cases h0
      rcases q1 with⟨h1,_⟩ | ⟨u1,h1,q1⟩
      ·cases h1
      cases h0;cases h1
      rcases q2 with⟨rfl,rfl⟩ | ⟨u',rfl,q2⟩<;>simp[Instr.sliceBounds, *]
     refine aV ?_ d
     simp[execOp,ho,hv,hsv,Instr.sliceAt,run_underlying hu,Instr.slice,hb,run_sizeOf he]
    ·exact d.elim
   ·exact d.elim
  ·exact d.elim
 ·exact d.elim
theorem HP {k:FloatKind} {x y r:Nat} (k':FloatKind) (h:fmm k false x y=some r):Builtin.min2 (.float k x) (.float k' y)=pure (.float k r):=by
 grind [fmm,Builtin.min2]
theorem HQ {k:FloatKind} {x y r:Nat} (k':FloatKind) (h:fmm k true x y=some r):Builtin.max2 (.float k x) (.float k' y)=pure (.float k r):=by
 grind [fmm,Builtin.max2]
theorem Ey {c:Call} (hT:bq P T) (r:RelL L st a w) (ho:o.op= .call c) (d:det T L mo st h (.call c) K):Out P st a w o K:=by
 have single:∀{α:Type} {l:Array α} {x:α},l.toList=[x]->l=#[x]:=fun h=>by grind
 have pair:∀{α:Type} {l:Array α} {x y:α},l.toList=[x,y]->l=#[x,y]:=fun h=>by grind
 simp only[det]at d
 split at d
 ·rename_i hc
  split at d
  ·rename_i x hx
   split at d
   ·rename_i t htt
    split at d
    ·rename_i ti h1
     split at d
     ·rename_i e hk
      have hu:=bQ (hT.tl h1) hk
      split at d
      ·rename_i y h4
       obtain⟨v,hcv,hv⟩:=aQ r.fr h4
       have hlen:∃aa n cc,v= .slice aa n cc/\K (.val (.int .i64 (n:Int))):=by
        cases y with
        | val u=>
         cases u<;>simp only[qI]at d<;>try exact d.elim
         grind [AVal.conc]
        | sl=>simp[AVal.conc]at hcv;exact⟨_,_,_,hcv.symm,d⟩
        | row=>
         simp only[AVal.conc,QS]at hcv
         obtain⟨p,_,hp⟩:=hcv
         exact⟨_,_,_,hp.symm,d⟩
        | _=>exact d.elim
       obtain⟨aa,n,cc,rfl,d⟩:=hlen
       exact aV (by simp[execOp,ho,resolve,hc,single hx,single htt,hv,invoke,builtin,Builtin.len_,run_underlying hu,goInt]) d
      ·exact d.elim
     ·split at d
      ·rename_i hk
       have hu:=eH (hT.tl h1) hk
       split at d
       ·rename_i s h4
        have hv:=bo r h4
        exact aV (by simp[execOp,ho,resolve,hc,single hx,single htt,hv,invoke,builtin,Builtin.len_,run_underlying hu,goInt]) d
       ·exact d.elim
      ·exact d.elim
     ·exact d.elim
    ·exact d.elim
   ·exact d.elim
  ·exact d.elim
 ·rename_i hc
  split at d
  ·rename_i x hx
   split at d
   ·rename_i t htt
    split at d
    ·rename_i ti h1
     split at d
     ·rename_i e hk
      have hu:=bQ (hT.tl h1) hk
      split at d
      ·rename_i y h4
       obtain⟨v,hcv,hv⟩:=aQ r.fr h4
       have hlen:∃aa n cc,v= .slice aa n cc/\K (.val (.int .i64 (cc:Int))):=by
        cases y with
        | val u=>
         cases u<;>simp only[qJ]at d<;>try exact d.elim
         grind [AVal.conc]
        | sl=>simp[AVal.conc]at hcv;exact⟨_,_,_,hcv.symm,d⟩
        | row=>
         simp only[AVal.conc,QS]at hcv
         obtain⟨p,_,hp⟩:=hcv
         exact⟨_,_,_,hp.symm,d⟩
        | _=>exact d.elim
       obtain⟨aa,n,cc,rfl,d⟩:=hlen
       exact aV (by simp[execOp,ho,resolve,hc,single hx,single htt,hv,invoke,builtin,Builtin.cap_,run_underlying hu,goInt]) d
      ·exact d.elim
     ·exact d.elim
    ·exact d.elim
   ·exact d.elim
  ·exact d.elim
 ·rename_i hc
  split at d
  ·rename_i x y hx
   split at d
   ·rename_i k aa h1
    split at d
    ·rename_i k' bb h2
     exact aV (by simp[execOp,ho,resolve,hc,pair hx,bo r h1,bo r h2,invoke,builtin,Builtin.min_,Builtin.min2]) d
    ·exact d.elim
   ·rename_i k aa h1
    split at d
    ·rename_i k' bb h2
     obtain⟨rr,hr,d⟩:=d
     have e:=HP k' hr
     exact aV (by simp[execOp,ho,resolve,hc,pair hx,bo r h1,bo r h2,invoke,builtin,Builtin.min_,e]) d
    ·exact d.elim
   ·exact d.elim
  ·exact d.elim
 ·rename_i hc
  split at d
  ·rename_i x y hx
   split at d
   ·rename_i k aa h1
    split at d
    ·rename_i k' bb h2
     exact aV (by simp[execOp,ho,resolve,hc,pair hx,bo r h1,bo r h2,invoke,builtin,Builtin.max_,Builtin.max2]) d
    ·exact d.elim
   ·rename_i k aa h1
    split at d
    ·rename_i k' bb h2
     obtain⟨rr,hr,d⟩:=d
     have e:=HQ k' hr
     exact aV (by simp[execOp,ho,resolve,hc,pair hx,bo r h1,bo r h2,invoke,builtin,Builtin.max_,e]) d
    ·exact d.elim
   ·exact d.elim
  ·exact d.elim
 ·exact d.elim
theorem sH (hT:bq P T):∀{fs:List Field} {pl:List (Nat × Nat)},mw T (fs.map fun f=>(f.offset,f.type))=some pl->
  fs.mapM (fun f=>(P.info? f.type).map fun i=>(f.offset,i.size))=some pl
 | [],pl,h=>by simp[mw]at h;subst h;rfl
 | f::fs,pl,h=>by
  simp only[Se,mw]at h
  split at h
  ·rename_i fi h1
   split at h
   ·rename_i q h2
    simp only[Option.some.injEq]at h
    subst h
    obtain⟨dd,i,z,q1,q2,q3,_⟩:=(hT.tl h1).ex
    simp[q2,q3,sH hT h2]
   ·cases h
  ·cases h
theorem AH {t:Nat} {parts:Array (Nat × Operand)} (hT:bq P T) (r:RelL L st a w) (ho:o.op= .build t parts) (d:det T L mo st h (.build t parts) K):Out P st a w o K:=by
 simp only[det]at d
 split at d
 ·rename_i ti h1
  obtain⟨dd,i,z,q1,q2,q3,q4,q5,q6,q7,q8,q9⟩:=(hT.tl h1).ex
  have hz:z.cells=ti.zero.toArray:=by rw[<-q6]
  split at d
  ·rename_i ps h2
   have hps:=nj r.fr h2
   have run:∀cells:List Value,P.built t ps=some cells.toArray->K (.val (.agg cells.toArray))->Out P st a w o K:=by
    intro cells hb hk
    have hb':P.built t (parts.map fun(i,x)=>(i,a.eval x)).toList=some cells.toArray:=by simp_all
    have:=run_build (P:=P) w t _ _ hb'
    exact aV (by simp only[execOp,ho];simp_all) hk
   split at d
   ·rename_i fs hk
    split at d
    ·rename_i pl h3
     split at d
     ·rename_i cells h4
      refine run cells ?_ d
      rw[hk]at q8
      have hd:∃F,dd= .struct F/\fs=F.toList.map fun f=>(f.offset,f.type):=by
       cases dd<;>simp[cM]at q8
       grind
      obtain⟨F,rfl,rfl⟩:=hd
      have hf:=oB h4
      simp only[Program.built,q2,q1,q5,sH hT h3,hz]
      simpa using hf
     ·exact d.elim
    ·exact d.elim
   ·rename_i n e hk
    split at d
    ·rename_i ei h3
     split at d
     ·rename_i cells h4
      refine run cells ?_ d
      have hu:=gU (hT.tl h1) hk
      obtain⟨de,ie,ze,p1,p2,p3,_⟩:=(hT.tl h3).ex
      have hf:=oB h4
      simp only[Program.built,q2,hu,q5,p2,p3,hz]
      exact hf
     ·exact d.elim
    ·exact d.elim
   ·exact d.elim
  ·exact d.elim
 ·exact d.elim
theorem mX (hT:bq P T) (r:RelL L st a w) (hh:Fr (mo.getD []) h w.heap) (d:det T L mo st h o.op K):Out P st a w o K:=by
 cases ho:o.op<;>rw[ho]at d
 case move x=>exact wn r (.inl ho) d
 case assign x=>exact wn (T:=T) (h:=h) (L:=L) (mo:=mo) r (.inr ho) d
 case pick=>exact Ev r ho d
 case load=>exact wa hT r hh ho d
 case nilCheck=>exact ue r ho d
 case fieldAddr=>exact qV hT r ho d
 case indexAddr=>exact qW hT r ho d
 case binOp=>exact AB hT r ho d
 case unOp=>exact Ew r ho d
 case build=>exact AH hT r ho d
 case convert=>exact wo hT r ho d
 case extract=>exact wq r ho d
 case makeFunc=>exact uk r ho d
 case makeInterface=>exact ma hT r ho d
 case field=>exact AC hT r ho d
 case index=>exact AE hT r ho d
 case slice t x lo hi mx=>
  cases mx with
  | none=>exact AG hT r ho d
  | some m=>cases hi with
   | none=>exact d.elim
   | some h=>exact yc hT r ho d
 case call=>exact Ey hT r ho d
 all_goals exact d.elim
end
end Go.X
