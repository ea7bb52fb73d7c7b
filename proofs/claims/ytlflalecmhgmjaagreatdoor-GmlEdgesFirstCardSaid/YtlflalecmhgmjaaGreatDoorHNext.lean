/- The program's lexer of GML: what its functions tell, by the plain reader. Conditions: none. -/
import Derived.Test.YtlflalecmhgmjaaGreatDoorHBr
import Derived.Test.YtlflalecmhgmjaaGreatDoorGTell
set_option linter.unusedVariables false
set_option linter.unusedSimpArgs false
namespace Go.Proofs.YtlflalecmhgmjaaGreatDoor.N
open Go.Proofs.YtlflalecmhgmjaaGreatDoor
open Go.X
set_option maxRecDepth 100000
def tokV (t:G.Tok):Value:=.agg #[.int .i64 (t.kind:Int),.int .i64 (t.at_:Int),.string t.says,.float .f64 t.num]
def flt (f:G.F):Value:=.iface 88 (.agg #[.int .i64 (f.1:Int),.int .i64 (f.2:Int)])
theorem callFail {a e:Nat} {h:Heap} {H:List Nat} {K E:Value->Heap->Prop} (k:E (flt (a,e)) h):callP Tryz.prog 109 #[.int .i64 (a:Int),.int .i64 (e:Int)] h H K E:=by
 refine callP_of (R:=fun _ _=>False) (Rp:=fun v h'=>v=flt (a,e)/\h'=h) [] ?_ (by simp) (fun _ _ r=>r.elim) (fun _ _ r=>Fr.of_eq r.2) (fun _ _ r=>r.elim) fun v h' r=>by obtain⟨rfl,rfl⟩:=r;exact k
 apply calls109
 exact⟨rfl,rfl⟩
theorem callMust {b:Bool} {a e:Nat} {h:Heap} {H:List Nat} {K E:Value->Heap->Prop} (k:b=true->K (.tuple #[]) h) (k2:b=false->E (flt (a,e)) h):callP Tryz.prog 58 #[.bool b,.int .i64 (a:Int),.int .i64 (e:Int)] h H K E:=by
 refine callP_of (R:=fun v h'=>b=true/\v= .tuple #[]/\h'=h) (Rp:=fun v h'=>b=false/\v=flt (a,e)/\h'=h) [] ?_ (by simp) (fun _ _ r=>Fr.of_eq r.2.2) (fun _ _ r=>Fr.of_eq r.2.2) (fun v h' r=>by obtain⟨q,rfl,rfl⟩:=r;exact k q) fun v h' r=>by obtain⟨q,rfl,rfl⟩:=r;exact k2 q
 apply calls58
 unfold S58
 refine⟨fun _ h'=>b=true/\h'=h,cnd_not (fun q=>?_) fun q=>⟨q,rfl⟩,fun h' q=>⟨q.1,rfl,q.2⟩⟩
 exact callFail ⟨q,rfl,rfl⟩
theorem bool_dec {p:Prop} [Decidable p] {b:Bool} (h:b=true ↔ p):b=decide p:=by
 cases b<;>simp_all
section
variable {n:Nat} {h:Heap} {H:List Nat} {K:Value->Heap->Prop}
theorem call_fn {f:Nat} {r:Bool} (c:CallsH Tryz.prog f #[.int .u8 (n:Int)] h fun v h'=>v= .bool r/\h'=h) (k:K (.bool r) h):callX Tryz.prog f #[.int .u8 (n:Int)] h H K:=
 callX_ofR [] c (by simp) (fun _ _ r=>Fr.of_eq r.2) fun v h' r=>by obtain⟨rfl,rfl⟩:=r;exact k
theorem ok203 :CallsH Tryz.prog 203 #[.int .u8 (n:Int)] h fun v h'=>v= .bool (G.lettr n)/\h'=h:=by
 apply calls203
 unfold S203
 have fin:∀b:Bool,(b=true ↔ 97<=n/\n<=122\/65<=n/\n<=90)->Value.bool b= .bool (G.lettr n)/\h=h:=fun b e=>⟨by rw[bool_dec e];rfl,rfl⟩
 refine cnd_dec (fun h1=>cnd_dec (fun h2=>fin _ ?_) fun h2=>cnd_dec (fun h3=>fin _ ?_) fun h3=>fin _ ?_) fun h1=>cnd_dec (fun h3=>fin _ ?_) fun h3=>fin _ ?_
 all_goals (simp;try omega)
theorem ok206 :CallsH Tryz.prog 206 #[.int .u8 (n:Int)] h fun v h'=>v= .bool (G.digt n)/\h'=h:=by
 apply calls206
 unfold S206
 have fin:∀b:Bool,(b=true ↔ 48<=n/\n<=57)->Value.bool b= .bool (G.digt n)/\h=h:=fun b e=>⟨by rw[bool_dec e];rfl,rfl⟩
 refine cnd_dec (fun h1=>fin _ ?_) fun h1=>fin _ ?_
 all_goals (simp;try omega)
theorem ok114 :CallsH Tryz.prog 114 #[.int .u8 (n:Int)] h fun v h'=>v= .bool (G.prnt n)/\h'=h:=by
 apply calls114
 unfold S114
 have fin:∀b:Bool,(b=true ↔ 32<=n/\n<=126)->Value.bool b= .bool (G.prnt n)/\h=h:=fun b e=>⟨by rw[bool_dec e];rfl,rfl⟩
 refine cnd_dec (fun h1=>fin _ ?_) fun h1=>fin _ ?_
 all_goals (simp;try omega)
theorem ok258 :CallsH Tryz.prog 258 #[.int .u8 (n:Int)] h fun v h'=>v= .bool (G.blnk n)/\h'=h:=by
 apply calls258
 unfold S258
 have fin:∀b:Bool,(b=true ↔ n=32\/n=9\/n=10\/n=13)->Value.bool b= .bool (G.blnk n)/\h=h:=fun b e=>⟨by rw[bool_dec e];rfl,rfl⟩
 refine cnd_eq (fun h1=>fin _ ?_) fun h1=>cnd_eq (fun h2=>fin _ ?_) fun h2=>cnd_eq (fun h3=>fin _ ?_) fun h3=>fin _ ?_
 all_goals (simp;try omega)
theorem ok205 :CallsH Tryz.prog 205 #[.int .u8 (n:Int)] h fun v h'=>v= .bool (G.wordB n)/\h'=h:=by
 apply calls205
 unfold S205
 intro K
 refine call_fn ok203 ⟨_,rfl,cnd_b (fun q=>?_) fun q=>call_fn ok206 ⟨_,rfl,cnd_b (fun q2=>?_) fun q2=>?_⟩⟩
 ·exact ⟨by simp[G.wordB,q],rfl⟩
 ·exact ⟨by simp[G.wordB,q2],rfl⟩
 ·refine ⟨?_,rfl⟩
  have:((n:Int)==95)=decide (n=95):=bool_dec (by simp;omega)
  rw[this]
  simp[G.wordB,q,q2]
theorem ok207 :CallsH Tryz.prog 207 #[.int .u8 (n:Int)] h fun v h'=>v= .bool (G.numbB n)/\h'=h:=by
 apply calls207
 unfold S207
 intro K
 refine call_fn ok203 ⟨_,rfl,cnd_b (fun q=>?_) fun q=>call_fn ok206 ⟨_,rfl,cnd_b (fun q2=>?_) fun q2=>cnd_eq (fun q3=>?_) fun q3=>cnd_eq (fun q4=>?_) fun q4=>?_⟩⟩
 ·exact ⟨by simp[G.numbB,q],rfl⟩
 ·exact ⟨by simp[G.numbB,q2],rfl⟩
 ·have:n=43:=by omega
  exact⟨by simp[G.numbB,this],rfl⟩
 ·have:n=45:=by omega
  exact⟨by simp[G.numbB,this],rfl⟩
 ·refine ⟨?_,rfl⟩
  have:((n:Int)==46)=decide (n=46):=bool_dec (by simp;omega)
  rw[this]
  have h3:n≠43:=by omega
  have h4:n≠45:=by omega
  simp[G.numbB,q,q2,h3,h4]
end
theorem wrN {j:Nat} (h:j<4611686018427387904):IntKind.i64.wrap ((j:Int)+(1:Int))=((j+1:Nat):Int):=by
 rw[wr (by omega) (by omega)];omega
theorem get_at {s:ByteArray} {j:Nat} (h:j<s.size):∃c:UInt8,s[j]? =some c/\G.bt s j=c.toNat:=by
 refine⟨s[j],getElem?_pos s j h,?_⟩
 unfold G.bt
 rw[getElem?_pos s j h]
def posM (s:ByteArray) (b:Nat):List Value->Heap->Nat:=fun _ h=>
 match hcell h b 1 with
 | some (.int _ x)=>s.size-x.toNat
 | _=>0
theorem posM_eq {s:ByteArray} {b i:Nat} {h:Heap} (L:Lx h b s i) (l:List Value):posM s b l h=s.size-i:=by
 unfold posM;rw[L.c1];simp
theorem skp_here {s:ByteArray} {j:Nat} (h:¬j<s.size):G.skp s j=j:=by rw[G.skp,if_neg h]
theorem skp_stop {s:ByteArray} {j:Nat} (h1:G.blnk (G.bt s j)=false) (h2:G.bt s j≠35):G.skp s j=j:=by
 rw[G.skp]
 split
 ·simp [h1,h2]
 ·rfl
theorem skp_blank {s:ByteArray} {j:Nat} (h:j<s.size) (h1:G.blnk (G.bt s j)=true):G.skp s j=G.skp s (j+1):=by
 conv=>lhs;rw[G.skp,if_pos h,if_pos h1]
theorem skp_note {s:ByteArray} {j:Nat} (h:j<s.size) (h1:G.bt s j=35):G.skp s j=G.skp s (G.run (fun c=>decide (c≠10)) s j):=by
 conv=>lhs;rw[G.skp,if_pos h,if_neg (by rw[h1];decide),if_pos h1]
 conv=>rhs;rw[G.run,if_pos ⟨h,by rw[h1];rfl⟩]
theorem index_run {s:ByteArray}:∀{l:List UInt8} {j:Nat},G.At s j l->G.run (fun c=>decide (c≠10)) s j=(if Lib.indexByte l 10<0 then s.size else j+(Lib.indexByte l 10).toNat)/\ -1<=Lib.indexByte l 10
 | [],j,a=>by
  have:=a.nil
  rw[G.run,if_neg (by omega)]
  simp[Lib.indexByte,this]
 | c::l,j,a=>by
  obtain⟨h1,h2,h3⟩:=a.cons
  obtain⟨e1,e2⟩:=index_run h3
  rw[G.run]
  by_cases q:c=10
  ·subst q
   rw[if_neg (by rw[h2];simp)]
   simp[Lib.indexByte]
  ·have hq:c.toNat≠10:=fun e=>q (UInt8.toNat_inj.1 e)
   rw[if_pos ⟨h1,by rw[h2];simpa using hq⟩,e1]
   have e3:Lib.indexByte (c::l) 10=if Lib.indexByte l 10== -1 then-1 else Lib.indexByte l 10+1:=by
    simp[Lib.indexByte,q]
   rw[e3]
   by_cases q1:Lib.indexByte l 10= -1
   ·simp [q1]
   ·have:(Lib.indexByte l 10== -1)=false:=by simpa using q1
    rw[this]
    simp only[Bool.false_eq_true,if_false]
    rw[if_neg (by omega),if_neg (by omega)]
    omega
theorem at_here {s:ByteArray} {j:Nat} (h:j<=s.size):G.At s j (s.extract j s.size).data.toList:=by
 refine⟨h,?_⟩
 rw[ByteArray.data_extract,Array.toList_extract,List.extract_eq_take_drop,List.take_of_length_le]
 rw[List.length_drop];exact Nat.le_refl _
theorem ok201 {h:Heap} {b i:Nat} {s:ByteArray} (L:Lx h b s i) (hi:i<=s.size) (hs:s.size<=262144):CallsH Tryz.prog 201 #[.pointer (some ⟨b,0,none⟩)] h fun v h'=>v= .tuple #[]/\Mv b h h' (G.skp s i):=by
 apply calls201
 unfold S201
 refine⟨fun _ h'=>∃j,j<=s.size/\G.skp s j=G.skp s i/\Mv b h h' j,posM s b,⟨i,hi,rfl,Mv.refl L⟩,?_⟩
 rintro hv ⟨j,hj,hsk,M⟩
 have Lj:=L.mv M
 refine⟨b,0,rfl,_,Lj.c1,b,0,rfl,_,Lj.c0,cnd_dec (fun hlt=>?_) fun hlt=>?_⟩
 ·have hlt:j<s.size:=by omega
  obtain⟨c,hc,hb⟩:=get_at hlt
  refine⟨b,0,rfl,_,Lj.c0,b,0,rfl,_,Lj.c1,by omega,by omega,c,by rw[Int.toNat_natCast];exact hc,?_⟩
  refine call_fn ok258 ⟨_,rfl,?_⟩
  refine⟨fun _ h'=>∃k,j<k/\k<=s.size/\G.skp s k=G.skp s i/\Mv b h h' k,?_,?_⟩
  ·refine cnd_b (fun q=>?_) fun q=>cnd_eq (fun q2=>?_) fun q2=>?_
   ·refine ⟨b,0,rfl,_,Lj.c1,b,0,rfl,Lj.cell,Lj.fr,?_⟩
    rw[wrN (by omega)]
    exact⟨j+1,by omega,by omega,by rw[<-skp_blank hlt (by rw[hb];exact q)];exact hsk,M.trans (Mv.to Lj (j+1))⟩
   ·have h35:G.bt s j=35:=by rw[hb];omega
    refine⟨b,0,rfl,_,Lj.c0,b,0,rfl,_,Lj.c1,by omega,by omega,?_⟩
    rw[Int.toNat_natCast]
    refine callX_same (ok256 (c:=10) (by decide)) ?_
    have e10:UInt8.ofNat 10=10:=rfl
    rw[e10]
    obtain⟨e1,e2⟩:=index_run (at_here (s:=s) (j:=j) hj)
    generalize Lib.indexByte (s.extract j s.size).data.toList 10=n at e1 e2
    refine⟨_,rfl,Fr.refl _ _,?_⟩
    have hge:=G.run_ge (fun c=>decide (c≠10)) s j
    have hle:=G.run_le (fun c=>decide (c≠10)) s _ j rfl hj
    have hgt:=G.run_lt (p:=fun c=>decide (c≠10)) hlt (by rw[h35];rfl)
    have hsk2:=skp_note hlt h35
    refine⟨fun l h'=>∃n2:Int,l=[.int .i64 n2]/\h'=hv/\(j:Int)+n2=(G.run (fun c=>decide (c≠10)) s j:Nat),?_,?_⟩
    ·refine cnd_dec (fun hneg=>?_) fun hneg=>?_
     ·rw [if_pos hneg]at e1
      refine⟨b,0,rfl,_,Lj.c0,b,0,rfl,_,Lj.c1,?_⟩
      rw[wr (by omega) (by omega)]
      exact⟨_,rfl,rfl,by rw[e1];omega⟩
     ·rw [if_neg hneg]at e1
      exact⟨_,rfl,rfl,by rw[e1];omega⟩
    ·rintro n2 hv5 ⟨_,e,rfl,hn⟩
     cases e
     refine⟨b,0,rfl,_,Lj.c1,b,0,rfl,Lj.cell,Lj.fr,?_⟩
     rw[wr (by omega) (by omega),hn]
     exact⟨_,hgt,hle,by rw[<-hsk2];exact hsk,M.trans (Mv.to Lj _)⟩
   ·refine ⟨rfl,?_⟩
    rw[<-hsk,skp_stop (by rw[hb];exact q) (by rw[hb];omega)]
    exact M
  ·rintro hv7 ⟨k,h1,h2,h3,h4⟩
   refine⟨⟨k,h2,h3,h4⟩,?_⟩
   rw[posM_eq (L.mv h4),posM_eq Lj]
   omega
 ·refine ⟨rfl,?_⟩
  rw[<-hsk,skp_here (by omega)]
  exact M
theorem ok204 {p:Nat->Bool} {g:Nat} (hg:∀(n:Nat) (h:Heap),CallsH Tryz.prog g #[.int .u8 (n:Int)] h fun v h'=>v= .bool (p n)/\h'=h) (hm:mem fnsX g=true) {h:Heap} {b i:Nat} {s:ByteArray} (L:Lx h b s i) (hi:i<=s.size) (hs:s.size<=262144):
  CallsH Tryz.prog 204 #[.pointer (some ⟨b,0,none⟩),.func (.func g) #[] #[]] h fun v h'=>v= .string (s.extract i (G.run p s i))/\Mv b h h' (G.run p s i):=by
 apply calls204
 unfold S204
 refine⟨b,0,rfl,_,L.c1,?_⟩
 intro K
 refine⟨fun _ h'=>∃j,i<=j/\j<=s.size/\G.run p s j=G.run p s i/\Mv b h h' j,posM s b,⟨i,Nat.le_refl _,hi,rfl,Mv.refl L⟩,?_⟩
 rintro hv ⟨j,hij,hj,hsk,M⟩
 have Lj:=L.mv M
 have fin:G.run p s j=j->K hv:=by
  intro e
  have ej:G.run p s i=j:=by rw[<-hsk,e]
  refine⟨b,0,rfl,_,Lj.c0,b,0,rfl,_,Lj.c1,by omega,by omega,by omega,by omega,?_⟩
  rw[Int.toNat_natCast,Int.toNat_natCast]
  exact⟨by rw[ej],by rw[ej];exact M⟩
 refine⟨b,0,rfl,_,Lj.c1,b,0,rfl,_,Lj.c0,cnd_dec (fun hlt=>?_) fun hlt=>?_⟩
 ·have hlt:j<s.size:=by omega
  obtain⟨c,hc,hb⟩:=get_at hlt
  refine⟨b,0,rfl,_,Lj.c0,b,0,rfl,_,Lj.c1,by omega,by omega,c,by rw[Int.toNat_natCast];exact hc,?_⟩
  have hcall:∀{K:Value->Heap->Prop},K (.bool (p c.toNat)) hv->callV Tryz.prog fnsX [] none (.func g) #[] #[] [.int .u8 ((UInt8.toNat c:Nat):Int)] hv [] K:=by
   intro K k
   unfold callV
   simp only[mem,hm]
   exact call_fn (hg c.toNat hv) k
  refine hcall ⟨_,rfl,Fr.refl _ _,cnd_b (fun q=>?_) fun q=>?_⟩
  ·refine ⟨b,0,rfl,_,Lj.c1,b,0,rfl,Lj.cell,Lj.fr,?_⟩
   rw[wrN (by omega)]
   have M':=M.trans (Mv.to Lj (j+1))
   refine⟨⟨j+1,by omega,by omega,?_,M'⟩,?_⟩
   ·rw [<-hsk]
    conv=>rhs;rw[G.run,if_pos ⟨hlt,by rw[hb];exact q⟩]
   ·rw [posM_eq (L.mv M'),posM_eq Lj]
    omega
  ·exact fin (by rw[G.run,if_neg (by rw[hb,q];simp)])
 ·exact ⟨Fr.refl _ _,fin (by rw[G.run,if_neg (by omega)])⟩
end Go.Proofs.YtlflalecmhgmjaaGreatDoor.N
namespace Go.Proofs.YtlflalecmhgmjaaGreatDoor.N
open Go.Proofs.YtlflalecmhgmjaaGreatDoor
open Go.X
set_option maxRecDepth 100000
theorem u8w {x:Int} (h1:0<=x) (h2:x<256):IntKind.u8.wrap x=x:=by rw[IntKind.wrap_u8'];omega
theorem preB_pref (t:ByteArray) (l:List UInt8):G.preB t 0 l=Lib.hasPrefix t.data.toList l:=by
 unfold G.preB Lib.hasPrefix
 rw[ByteArray.data_extract,Array.toList_extract,List.extract_eq_take_drop,List.drop_zero,Nat.zero_add,Nat.sub_zero]
 rw[Bool.eq_iff_iff]
 simp only[decide_eq_true_eq,List.isPrefixOf_iff_prefix]
 constructor
 ·intro e
  rw[<-e]
  exact List.take_prefix _ _
 ·intro h
  exact(List.prefix_iff_eq_take.1 h).symm
def partV (o:Option (Nat × Nat)):Value:=
 match o with
 | some (c,n)=>.tuple #[.int .u8 (c:Int),.int .i64 (n:Int)]
 | none=>.tuple #[.int .u8 0,.int .i64 0]
def nm5 :List (List UInt8):=[G.amp,G.quot,G.ltB,G.gtB,G.apos]
def nb5 :List UInt8:=[38,34,60,62,39]
theorem bt_dig {t:ByteArray} {i:Nat} (h:G.digt (G.bt t i)=true):i<t.size:=G.bt_lt (by intro e;rw[e]at h;revert h;decide)
theorem ok259 {t:ByteArray} (ht:t.size<=262144) {h:Heap}:CallsH Tryz.prog 259 #[.string t] h fun v h'=>v=partV (G.part t 0)/\Fr [] h h':=by
 apply calls259
 unfold S259
 intro hv
 have hfr:Fr [] h hv:=Fr.push h _
 have hblk:hv[h.size]? =some (.cells #[.string ⟨#[38,97,109,112,59]⟩,.string ⟨#[38,113,117,111,116,59]⟩,.string ⟨#[38,108,116,59]⟩,.string ⟨#[38,103,116,59]⟩,.string ⟨#[38,97,112,111,115,59]⟩] 9):=blk_push_new
 clear_value hv
 refine⟨fun l h'=>∃n:Nat,l=[.int .i64 (n:Int)]/\n<=5/\h'=hv/\∀k x,k<n->nm5[k]? =some x->G.preB t 0 x=false,mI 5,⟨0,rfl,by decide,rfl,fun k x hk=>by omega⟩,?_⟩
 rintro _ hv2 ⟨n,e,hn,rfl,hno⟩
 cases e
 refine cnd_dec (fun hlt=>?_) fun hlt=>?_
 ·have hn5:n<5:=by omega
  obtain⟨x,hx,c,hc,hcell,hbyte,hpart⟩:∃x:List UInt8,nm5[n]? =some x/\∃c:UInt8,nb5[n]? =some c/\hcell hv2 h.size (0+(Int.toNat (n:Int))*1)=some (.string ⟨x.toArray⟩)/\(⟨#[38,34,60,62,39]⟩:ByteArray)[Int.toNat (n:Int)]? =some c/\(G.preB t 0 x=true->G.part t 0=some (c.toNat,x.length)):=by
   have q:∀k v,(#[.string ⟨#[38,97,109,112,59]⟩,.string ⟨#[38,113,117,111,116,59]⟩,.string ⟨#[38,108,116,59]⟩,.string ⟨#[38,103,116,59]⟩,.string ⟨#[38,97,112,111,115,59]⟩]:Array Value)[k]? =some v->hcell hv2 h.size k=some v:=fun k v q=>by rw[hcell_of hblk];exact q
   have no:∀k x,k<n->nm5[k]? =some x->¬G.preB t 0 x=true:=fun k x a b=>by rw[hno k x a b];simp
   match n,hn5,no with
   | 0,_,no=>exact⟨G.amp,rfl,38,rfl,q 0 _ rfl,rfl,fun p=>by unfold G.part;rw[if_pos p];rfl⟩
   | 1,_,no=>exact⟨G.quot,rfl,34,rfl,q 1 _ rfl,rfl,fun p=>by unfold G.part;rw[if_neg (no 0 _ (by decide) rfl),if_pos p];rfl⟩
   | 2,_,no=>exact⟨G.ltB,rfl,60,rfl,q 2 _ rfl,rfl,fun p=>by unfold G.part;rw[if_neg (no 0 _ (by decide) rfl),if_neg (no 1 _ (by decide) rfl),if_pos p];rfl⟩
   | 3,_,no=>exact⟨G.gtB,rfl,62,rfl,q 3 _ rfl,rfl,fun p=>by unfold G.part;rw[if_neg (no 0 _ (by decide) rfl),if_neg (no 1 _ (by decide) rfl),if_neg (no 2 _ (by decide) rfl),if_pos p];rfl⟩
   | 4,_,no=>exact⟨G.apos,rfl,39,rfl,q 4 _ rfl,rfl,fun p=>by unfold G.part;rw[if_neg (no 0 _ (by decide) rfl),if_neg (no 1 _ (by decide) rfl),if_neg (no 2 _ (by decide) rfl),if_neg (no 3 _ (by decide) rfl),if_pos p];rfl⟩
  refine⟨h.size,0,rfl,by omega,by omega,_,hcell,?_⟩
  refine callX_same ok130 ?_
  rw[<-preB_pref]
  refine⟨_,rfl,cnd_b (fun p=>?_) fun p=>?_⟩
  ·refine ⟨by omega,by show(n:Int)<((5:Nat):Int);omega,c,hbyte,?_,hfr⟩
   rw[hpart p]
   rfl
  ·rw [wr (x:=(n:Int)+1) (by omega) (by omega)]
   refine⟨⟨n+1,by simp,by omega,rfl,fun k y hk hy=>?_⟩,by simp only[mI];omega⟩
   by_cases q:k=n
   ·subst q;rw[hx]at hy;cases hy;exact p
   ·exact hno k y (by omega) hy
 ·obtain rfl:n=5:=by omega
  have np:∀k x,k<5->nm5[k]? =some x->¬G.preB t 0 x=true:=fun k x a b=>by rw[hno k x a b];simp
  have hp:G.part t 0=(if G.preB t 0 [38,35]=false then none else match G.digs t 3 0 (0+2)with
    | (n,k)=>if k=0+2\/G.bt t k≠59\/G.prnt n=false then none else some (n,k+1-0)):=by
   unfold G.part
   rw[if_neg (np 0 _ (by decide) rfl),if_neg (np 1 _ (by decide) rfl),if_neg (np 2 _ (by decide) rfl),if_neg (np 3 _ (by decide) rfl),if_neg (np 4 _ (by decide) rfl)]
  refine callX_same ok130 ?_
  rw[<-preB_pref]
  refine⟨_,rfl,cnd_not (fun p=>?_) fun p=>?_⟩
  ·rw [hp,if_pos p]
   exact⟨rfl,hfr⟩
  ·rw [if_neg (by rw[p];simp)]at hp
   intro K2
   have fin:∀m k:Nat,G.digs t 3 0 2=(m,k)->2<=k->k<=5->k<=t.size->m<1000->K2 (m:Int) (k:Int) hv2:=by
    intro m k e k2 k5 ks m3
    rw[show(0+2)=2 from rfl,e]at hp
    simp only[Nat.sub_zero]at hp
    have no:(k=2\/G.bt t k≠59\/G.prnt m=false)->Value.tuple #[Value.int IntKind.u8 0,Value.int IntKind.i64 0]=partV (G.part t 0)/\Fr [] h hv2:=fun q=>by rw[if_pos q]at hp;exact⟨by rw[hp];rfl,hfr⟩
    refine cnd_eq (fun q=>no (.inl (by omega))) fun q=>cnd_eq (fun q2=>?_) fun q2=>?_
    ·refine no (.inr (.inl ?_))
     have:¬k<t.size:=by omega
     unfold G.bt
     rw[getElem?_neg t k this]
     decide
    ·have hk:k<t.size:=by omega
     obtain⟨c,hc,hb⟩:=get_at hk
     refine⟨by omega,by omega,c,by rw[Int.toNat_natCast];exact hc,cnd_ne (fun q3=>no (.inr (.inl (by rw[hb];omega)))) fun q3=>cnd_dec (fun q4=>?_) fun q4=>?_⟩
     ·refine no (.inr (.inr ?_))
      simp[G.prnt];omega
     ·rw [u8w (x:=(m:Int)) (by omega) (by omega)]
      refine call_fn ok114 ⟨_,rfl,cnd_not (fun q5=>?_) fun q5=>?_⟩
      ·have:=no (.inr (.inr q5))
       exact this
      ·rw [wrN (by omega)]
       rw[if_neg (by rw[hb,q5];simp;omega)]at hp
       exact⟨by rw[hp];rfl,hfr⟩
   refine⟨fun l h'=>∃r m k:Nat,l=[.int .i64 (m:Int),.int .i64 (k:Int)]/\k+r=5/\2<=k/\k<=t.size/\G.digs t 3 0 2=G.digs t r m k/\m<10^(k-2)/\h'=hv2,fun l _=>(match l with | [_,.int _ x]=>((5:Int)-x).toNat | _=>0),⟨3,0,2,rfl,rfl,by decide,?_,rfl,by decide,rfl⟩,?_⟩
   ·rcases G.preB_lt p with q | q
    ·simpa using q
    ·cases q
   rintro _ _ hv5 ⟨r,m,k,e,hr,k2,ks,hd,hm,rfl⟩
   cases e
   have m3:m<1000:=by
    have:10^(k-2)<=10^3:=Nat.pow_le_pow_right (by decide) (by omega)
    omega
   intro K
   have stop:G.digs t r m k=(m,k)->K2 (m:Int) (k:Int) hv5:=fun q=>fin m k (hd.trans q) k2 (by omega) ks m3
   refine cnd_dec (fun q1=>cnd_dec (fun q2=>?_) fun q2=>?_) fun q1=>?_
   ·obtain ⟨c,hc,hb⟩:=get_at (show k<t.size by omega)
    refine⟨by omega,by omega,c,by rw[Int.toNat_natCast];exact hc,?_⟩
    obtain⟨r',rfl⟩:∃r',r=r'+1:=⟨r-1,by omega⟩
    refine call_fn ok206 ⟨_,rfl,cnd_b (fun q3=>?_) fun q3=>?_⟩
    ·have hdg:48<=c.toNat/\c.toNat<=57:=by simpa[G.digt]using q3
     refine⟨by omega,by omega,c,by rw[Int.toNat_natCast];exact hc,?_⟩
     have e1:IntKind.u8.wrap (((UInt8.toNat c:Nat):Int)-(48:Int))=((c.toNat-48:Nat):Int):=by rw[u8w (by omega) (by omega)];omega
     rw[e1,wr (x:=((c.toNat-48:Nat):Int)) (by omega) (by omega),wr (x:=(10:Int)*(m:Int)) (by omega) (by omega),wr (x:=(10:Int)*(m:Int)+((c.toNat-48:Nat):Int)) (by omega) (by omega),wrN (by omega)]
     refine⟨⟨r',10*m+(c.toNat-48),k+1,by simp,by omega,by omega,by omega,?_,?_,rfl⟩,by simp only[];omega⟩
     ·rw [hd,G.digs,if_pos (by rw[hb];exact q3),hb]
     ·rw [show k+1-2=(k-2)+1 by omega,Nat.pow_succ];omega
    ·exact stop (by rw[G.digs,if_neg (by rw[hb,q3];simp)])
   ·obtain rfl:r=0:=by omega
    exact stop rfl
   ·refine stop ?_
    cases r with
    | zero=>rfl
    | succ r=>
     rw[G.digs,if_neg]
     intro q
     have:=bt_dig q
     omega
end Go.Proofs.YtlflalecmhgmjaaGreatDoor.N
namespace Go.Proofs.YtlflalecmhgmjaaGreatDoor.G
theorem ext_list {s:ByteArray} {j:Nat} (a b:Nat):(s.extract a b).data.toList=(s.data.toList.drop a).take (b-a):=by
 rw[ByteArray.data_extract,Array.toList_extract,List.extract_eq_take_drop]
theorem ext_all (s:ByteArray) (j:Nat):(s.extract j s.size).data.toList=s.data.toList.drop j:=by
 rw[ext_list (j:=0),List.take_of_length_le]
 rw[List.length_drop];exact Nat.le_refl _
theorem preB_sub (s:ByteArray) (j:Nat) (l:List UInt8):preB (s.extract j s.size) 0 l=preB s j l:=by
 unfold preB
 rw[ext_list (j:=0),ext_all,ext_list (j:=0),Nat.zero_add,Nat.sub_zero,Nat.add_sub_cancel_left,List.drop_zero]
theorem bt_sub (s:ByteArray) (j k:Nat):bt (s.extract j s.size) k=bt s (j+k):=by
 rw[bt_get,bt_get,ext_all,List.getElem?_drop]
theorem digs_sub (s:ByteArray) (j:Nat):∀(r n k:Nat),digs s r n (j+k)=((digs (s.extract j s.size) r n k).1,j+(digs (s.extract j s.size) r n k).2)
 | 0,n,k=>rfl
 | r+1,n,k=>by
  rw[digs,digs,bt_sub]
  split
  ·rw [show j+k+1=j+(k+1) by omega,digs_sub s j r _ (k+1)]
  ·rfl
theorem part_sub (s:ByteArray) (j:Nat):part (s.extract j s.size) 0=part s j:=by
 unfold part
 simp only[preB_sub,digs_sub s j 3 0 2]
 have hg:=digs_ge (s.extract j s.size) 3 0 2
 simp only[Nat.zero_add]at hg ⊢
 generalize digs (s.extract j s.size) 3 0 2=y at hg ⊢
 obtain⟨n,k⟩:=y
 simp only[bt_sub]at hg ⊢
 have e1:(j+k=j+2)=(k=2):=by apply propext;omega
 have e2:j+k+1-j=k+1-0:=by omega
 simp only[e1,e2]
theorem part_lt {s:ByteArray} {i c n:Nat} (h:part s i=some (c,n)):c<256:=by
 unfold part at h
 split at h
 ·cases h;decide
 split at h
 ·cases h;decide
 split at h
 ·cases h;decide
 split at h
 ·cases h;decide
 split at h
 ·cases h;decide
 split at h
 ·cases h
 ·generalize digs s 3 0 (i+2)=y at h
  obtain⟨m,k⟩:=y
  simp only at h
  split at h
  ·cases h
  ·rename_i q
   simp only[not_or,Bool.not_eq_false]at q
   simp only[Option.some.injEq,Prod.mk.injEq]at h
   have:=q.2.2
   simp[prnt]at this
   omega
end Go.Proofs.YtlflalecmhgmjaaGreatDoor.G
namespace Go.Proofs.YtlflalecmhgmjaaGreatDoor.N
open Go.Proofs.YtlflalecmhgmjaaGreatDoor
open Go.X
set_option maxRecDepth 100000
def bv (l:List UInt8):List Value:=l.map fun c=>Value.int .u8 ((c.toNat:Nat):Int)
theorem strOf_bytes (l:List UInt8):strOf (l.map fun c=>((c.toNat:Nat):Int))=G.mkB l:=by
 unfold strOf G.mkB
 rw[foldl_push_byteCells l ByteArray.empty]
 have e:ByteArray.empty.data=#[]:=rfl
 rw[e];simp
theorem str_end {s:ByteArray} {fr i:Nat} {out:List UInt8} (h:¬i<s.size):G.str s fr i out= .no (fr,15):=by rw[G.str,if_neg h]
theorem ok202 {h:Heap} {b i:Nat} {s:ByteArray} (L:Lx h b s i) (hi:i<s.size) (hs:s.size<=262144):
  CallsP Tryz.prog 202 #[.pointer (some ⟨b,0,none⟩)] h (fun v h'=>∃l j,G.str s i (i+1) []= .ok (l,j)/\v= .string (G.mkB l)/\Mv b h h' j) (fun v h'=>∃f,G.str s i (i+1) []= .no f/\v=flt f/\Fr [b] h h'):=by
 apply calls202
 unfold S202
 refine⟨b,0,rfl,_,L.c1,b,0,rfl,_,L.c1,b,0,rfl,L.cell,L.fr,?_⟩
 rw[wrN (by omega)]
 intro hv
 have M0:Mv b h hv (i+1):=Mv.to L (i+1)
 clear_value hv
 refine⟨fun l h'=>∃(A:Option Addr) (C j:Nat) (out:List UInt8),l=[.slice A out.length C]/\out.length+i+1<=j/\j<=s.size/\G.str s i j out=G.str s i (i+1) []/\Mv b h h' j/\Ownd h' 5 1 A out.length C (bv out)/\∀g∈blkOf A,h.size<=g,posM s b,
  ⟨none,0,i+1,[],rfl,by simp,by omega,rfl,M0,Ownd.nil _ _ _,by simp[blkOf]⟩,?_⟩
 rintro A _ C hv2 ⟨_,_,j,out,e,hol,hj,hst,M,ow,hA⟩
 cases e
 have Lj:=L.mv M
 have ne:∀g∈blkOf A,g≠b:=fun g q e=>by have:=hA g q;have:=L.lt;omega
 refine⟨b,0,rfl,_,Lj.c1,b,0,rfl,_,Lj.c0,cnd_dec (fun hlt=>?_) fun hlt=>?_⟩
 ·have hlt:j<s.size:=by omega
  obtain⟨c,hc,hb⟩:=get_at hlt
  rw[G.str,if_pos hlt,hb]at hst
  refine⟨b,0,rfl,_,Lj.c0,b,0,rfl,_,Lj.c1,by omega,by omega,c,by rw[Int.toNat_natCast];exact hc,cnd_eq (fun q=>?_) fun q=>?_⟩
  ·rw [if_pos (by omega)]at hst
   refine⟨b,0,rfl,_,Lj.c1,b,0,rfl,Lj.cell,Lj.fr,?_⟩
   rw[wrN (by omega)]
   have M':=M.trans (Mv.to Lj (j+1))
   have ow':Ownd (hset hv2 b (0+1) (.int .i64 ((j+1:Nat):Int))) 5 1 A out.length C (bv out):=ow.fr (Fr.hset _ _ _ _) (fun g q=>by simpa using ne g q)
   refine⟨out.map fun c=>((c.toNat:Nat):Int),?_,out,j+1,hst.symm,by rw[strOf_bytes],M'⟩
   have:=ow'.reads
   rw[List.map_map]
   exact this
  ·rw [if_neg (by omega)]at hst
   have put:∀(hv6:Heap) (ra:Int) (c1:UInt8) (k:Nat) {K:Value->Heap->Prop},Fr [] hv2 hv6->ra=((c1.toNat:Nat):Int)->j<k->k<=s.size->G.str s i k (out++[c1])=G.str s i (i+1) []->
     (let hv7:Heap:=hv6.push (.cells #[.int .u8 ra] 5)
      ∃old,Ownd hv7 5 1 A out.length C old/\(∀b∈([hv6.size]:List Nat),b∉blkOf A)/\(out.length+1)*1<=140737488355328/\(out.length+1)<=maxLen/\
      ∀sA sC hv8,Ownd hv8 5 1 sA (out.length+1) sC (old++[.int .u8 ra])->Fr (blkOf A) hv7 hv8->((sA=A/\sC=C)\/∃g,sA=some ⟨g,0,none⟩/\hv7.size<=g)->(C<(out.length+1)->Fr [] hv7 hv8)->
      (Lx hv8 b s j/\b≠hv6.size/\∃(A':Option Addr) (C' k':Nat) (out':List UInt8),[Value.slice sA (out.length+1) sC]=[.slice A' out'.length C']/\out'.length+i+1<=k'/\j<k'/\k'<=s.size/\G.str s i k' out'=G.str s i (i+1) []/\k'=k/\
       (Mv b h (hset hv8 b 1 (.int .i64 (k':Int))) k'/\Ownd (hset hv8 b 1 (.int .i64 (k':Int))) 5 1 A' out'.length C' (bv out')/\∀g∈blkOf A',h.size<=g))):=by
    intro hv6 ra c1 k K f6 hra hk hks hst2 hv7
    have f7:Fr [] hv2 hv7:=f6.trans (Fr.push hv6 _)
    have hsz:hv2.size<=hv6.size:=f6.size
    have hM:=M.fr.size
    have e7:hv7.size=hv6.size+1:=by simp[hv7]
    clear_value hv7
    refine⟨bv out,ow.fr f7 (by simp),fun x hx=>?_,by omega,by simp only[maxLen];omega,?_⟩
    ·simp only[List.mem_singleton]at hx
     subst hx
     intro q
     have:=ow.lt _ q
     omega
    intro sA sC hv8 ow8 f8 gA _
    have M8:Mv b h hv8 j:=(M.ext f7 (by simp)).ext f8 hA
    have L8:=L.mv M8
    have hA8:∀g∈blkOf sA,h.size<=g:=by
     rcases gA with⟨rfl,_⟩ | ⟨g,rfl,hg⟩
     ·exact hA
     ·intro x hx;simp[blkOf]at hx;omega
    have ne8:∀g∈blkOf sA,g≠b:=fun g q e=>by have:=hA8 g q;have:=L.lt;omega
    refine⟨L8,by have:=L.lt;omega,sA,sC,k,out++[c1],by rw[List.length_append];rfl,by rw[List.length_append,List.length_singleton];omega,hk,hks,hst2,rfl,M8.trans (Mv.to L8 k),?_,hA8⟩
    have e2:bv out++[.int .u8 ra]=bv (out++[c1]):=by simp[bv,hra]
    rw[e2]at ow8
    rw[List.length_append,List.length_singleton]
    exact ow8.fr (Fr.hset _ _ _ _) (fun g q=>by simpa using ne8 g q)
   let J:List Value->Heap->Prop:=fun l h'=>∃(A:Option Addr) (C k:Nat) (out:List UInt8),l=[.slice A out.length C]/\out.length+i+1<=k/\j<k/\k<=s.size/\G.str s i k out=G.str s i (i+1) []/\Mv b h h' k/\Ownd h' 5 1 A out.length C (bv out)/\∀g∈blkOf A,h.size<=g
   refine⟨J,?_,?_⟩
   ·refine cnd_eq (fun q2=>?_) fun q2=>?_
    ·rw [if_pos (by omega)]at hst
     refine⟨b,0,rfl,_,Lj.c0,b,0,rfl,_,Lj.c1,by omega,by omega,?_⟩
     rw[Int.toNat_natCast]
     refine callX_ofR [] (ok259 (t:=s.extract j s.size) (by rw[ByteArray.size_extract];omega)) (by simp) (fun _ _ r=>r.2) fun v hv4 r=>?_
     obtain⟨rfl,f4⟩:=r
     rw[G.part_sub]
     have L4:=Lj.mv ((Mv.refl Lj).ext f4 (by simp))
     cases hp:G.part s j with
     | none=>
      rw[hp]at hst
      refine⟨0,0,rfl,f4,b,0,rfl,_,L4.c1,?_⟩
      refine callMust (fun q=>?_) fun q=>?_
      ·exact absurd q (by decide)
      ·exact ⟨_,hst.symm,rfl,M.fr.trans f4.nil⟩
     | some p=>
      obtain⟨c1,n1⟩:=p
      rw[hp]at hst
      simp only at hst
      obtain⟨p1,p2⟩:=G.part_le hlt hp
      have p3:=G.part_lt hp
      refine⟨_,_,rfl,f4,b,0,rfl,_,L4.c1,?_⟩
      refine callMust (fun q=>⟨rfl,?_⟩) fun q=>?_
      ·obtain ⟨old,o1,o2,o3,o4,o5⟩:=put hv4 (c1:Int) (UInt8.ofNat c1) (j+(n1-1)+1) (K:=fun _ _=>True) f4 (by rw[UInt8.toNat_ofNat'];omega) (by omega) (by omega) hst
       refine⟨old,o1,o2,o3,o4,fun sA sC hv7 q1 q2 q3 q4=>?_⟩
       obtain⟨L8,hne,A',C',k',out',e1,e2,e3,e4,e5,e6,e7,e8,e9⟩:=o5 sA sC hv7 q1 q2 q3 q4
       refine⟨b,0,rfl,_,L8.c1,b,0,rfl,hne,L8.cell,L8.fr,?_⟩
       have ek:(j:Int)+(n1:Int)=(k':Int):=by omega
       rw[wr (by omega) (by omega),ek]
       exact⟨A',C',k',out',e1,e2,e3,e4,e5,e7,e8,e9⟩
      ·exact absurd q (by simp;omega)
    ·rw [if_neg (by omega)]at hst
     intro K
     have go:∀hv13,Fr [] hv2 hv13->(G.prnt c.toNat=true\/G.blnk c.toNat=true)->K hv13:=by
      intro hv13 f13 hpb
      rw[if_pos hpb,UInt8.ofNat_toNat]at hst
      obtain⟨old,o1,o2,o3,o4,o5⟩:=put hv13 ((c.toNat:Nat):Int) c (j+1) (K:=fun _ _=>True) f13 rfl (by omega) (by omega) hst
      refine⟨old,o1,o2,o3,o4,fun sA sC hv7 q1 q2 q3 q4=>?_⟩
      obtain⟨L8,hne,A',C',k',out',e1,e2,e3,e4,e5,e6,e7,e8,e9⟩:=o5 sA sC hv7 q1 q2 q3 q4
      refine⟨b,0,rfl,_,L8.c1,b,0,rfl,hne,L8.cell,L8.fr,?_⟩
      have ek:(j:Int)+(1:Int)=(k':Int):=by omega
      rw[wr (by omega) (by omega),ek]
      exact⟨A',C',k',out',e1,e2,e3,e4,e5,e7,e8,e9⟩
     refine⟨b,0,rfl,_,Lj.c1,?_⟩
     refine call_fn ok114 ⟨_,rfl,Fr.refl _ _,cnd_b (fun q3=>?_) fun q3=>?_⟩
     ·refine ⟨Fr.refl _ _,?_⟩
      refine callMust (fun _=>⟨rfl,Fr.refl _ _,go _ (Fr.refl _ _) (.inl q3)⟩) fun q=>absurd q (by decide)
     ·refine call_fn ok258 ⟨_,rfl,Fr.refl _ _,?_⟩
      refine callMust (fun q4=>⟨rfl,Fr.refl _ _,go _ (Fr.refl _ _) (.inr q4)⟩) fun q4=>?_
      rw[if_neg (by rw[q3,q4];simp)]at hst
      exact⟨_,hst.symm,rfl,M.fr⟩
   ·rintro A2 L2 C2 hv17 ⟨A3,C3,k,out3,e,h1,h2,h3,h4,h5,h6,h7⟩
    refine⟨⟨A3,C3,k,out3,e,h1,h3,h4,h5,h6,h7⟩,?_⟩
    rw[posM_eq (L.mv h5),posM_eq Lj]
    omega
 ·refine callFail ?_
  exact⟨_,by rw[<-hst];exact str_end (by omega),rfl,M.fr⟩
end Go.Proofs.YtlflalecmhgmjaaGreatDoor.N
namespace Go.Proofs.YtlflalecmhgmjaaGreatDoor.N
open Go.Proofs.YtlflalecmhgmjaaGreatDoor
open Go.X
set_option maxRecDepth 100000
def nextP (s:ByteArray) (p:Nat):G.Er (G.Tok × Nat):=
 if p>=s.size then .ok (⟨0,p,G.noB,0⟩,p)
 else if G.bt s p=91 then .ok (⟨1,p,G.noB,0⟩,p+1)
 else if G.bt s p=93 then .ok (⟨2,p,G.noB,0⟩,p+1)
 else if G.bt s p=34 then(G.str s p (p+1) []).bind fun(l,j)=>.ok (⟨5,p,G.mkB l,0⟩,j)
 else if G.lettr (G.bt s p)=true then .ok (⟨3,p,s.extract p (G.run G.wordB s p),0⟩,G.run G.wordB s p)
 else if G.digt (G.bt s p)=true\/G.bt s p=43\/G.bt s p=45\/G.bt s p=46 then .ok (⟨4,p,s.extract p (G.run G.numbB s p),0⟩,G.run G.numbB s p)
 else .no (p,15)
theorem next_eq (s:ByteArray) (i:Nat):G.next s i=nextP s (G.skp s i):=rfl
def tokL (t:G.Tok):List Value:=[.int .i64 (t.kind:Int),.int .i64 (t.at_:Int),.string t.says,.float .f64 t.num]
theorem ok149 {h:Heap} {b i:Nat} {s:ByteArray} (L:Lx h b s i) (hi:i<=s.size) (hs:s.size<=262144):
  CallsP Tryz.prog 149 #[.pointer (some ⟨b,0,none⟩)] h (fun v h'=>∃t j,G.next s i= .ok (t,j)/\v=tokV t/\Mv b h h' j) (fun v h'=>∃f,G.next s i= .no f/\v=flt f/\Fr [b] h h'):=by
 apply calls149
 unfold S149
 rw[next_eq]
 obtain⟨hp1,hp2⟩:=G.skp_le s _ i (Nat.le_refl _) hi
 intro hv
 have bl:=L.lt
 have M1:Mv b h hv i:=(Mv.refl L).push _
 have e1:hv.size=h.size+1:=by simp[hv]
 clear_value hv
 have L1:=L.mv M1
 refine callX_ofR [b] (ok201 L1 hi hs) (by simp;omega) (fun _ _ r=>r.2.fr) fun v hv2 r=>?_
 obtain⟨rfl,M2⟩:=r
 generalize G.skp s i=p at hp1 hp2 M2
 have s12:hv.size<=hv2.size:=M2.fr.size
 have M2:=M1.trans M2
 have L2:=L.mv M2
 refine⟨rfl,b,0,rfl,_,L2.c1,?_⟩
 intro hv3 hv4
 have M4:Mv b h hv4 p:=((((M2.push _).hsetn (by omega)).hsetn (by omega)).hsetn (by omega)).hsetn (by omega)
 have e4:hv4.size=hv2.size+1:=by simp[hv4,hv3]
 clear_value hv4
 clear hv3
 have L4:=L.mv M4
 have fin:∀(t:G.Tok) (j:Nat) (hv29:Heap),nextP s p= .ok (t,j)->Mv b h hv29 j->
   ∃t' j',nextP s p= .ok (t',j')/\Value.agg #[.int .i64 (t.kind:Int),.int .i64 (t.at_:Int),.string t.says,.float .f64 t.num]=tokV t'/\
    Mv b h (hset (hset (hset (hset hv29 h.size 0 (.int .i64 (t.kind:Int))) h.size (0+1) (.int .i64 (t.at_:Int))) h.size ((0+1)+1) (.string t.says)) h.size (((0+1)+1)+1) (.float .f64 t.num)) j':=
  fun t j hv29 q M=>⟨t,j,q,rfl,(((M.hsetn (Nat.le_refl _)).hsetn (Nat.le_refl _)).hsetn (Nat.le_refl _)).hsetn (Nat.le_refl _)⟩
 refine⟨b,0,rfl,_,L4.c1,b,0,rfl,_,L4.c0,cnd_eq (fun q=>?_) fun q=>?_⟩
 ·exact fin ⟨0,p,G.noB,0⟩ p hv4 (by unfold nextP;rw[if_pos (by omega)]) M4
 ·have hlt:p<s.size:=by omega
  obtain⟨c,hc,hb⟩:=get_at hlt
  have hnx:nextP s p=(if c.toNat=91 then .ok (⟨1,p,G.noB,0⟩,p+1)
    else if c.toNat=93 then .ok (⟨2,p,G.noB,0⟩,p+1)
    else if c.toNat=34 then(G.str s p (p+1) []).bind fun(l,j)=>.ok (⟨5,p,G.mkB l,0⟩,j)
    else if G.lettr c.toNat=true then .ok (⟨3,p,s.extract p (G.run G.wordB s p),0⟩,G.run G.wordB s p)
    else if G.digt c.toNat=true\/c.toNat=43\/c.toNat=45\/c.toNat=46 then .ok (⟨4,p,s.extract p (G.run G.numbB s p),0⟩,G.run G.numbB s p)
    else .no (p,15)):=by
   unfold nextP
   rw[if_neg (by omega),hb]
  refine⟨b,0,rfl,_,L4.c0,b,0,rfl,_,L4.c1,by omega,by omega,c,by rw[Int.toNat_natCast];exact hc,?_⟩
  let J:List Value->Heap->Prop:=fun l h'=>∃t j,l=tokL t/\nextP s p= .ok (t,j)/\Mv b h h' j
  have out:∀{k a:Int} {x:ByteArray} {f:Nat} {hv29:Heap},J [.int .i64 k,.int .i64 a,.string x,.float .f64 f] hv29->
    ∃t' j',nextP s p= .ok (t',j')/\Value.agg #[.int .i64 k,.int .i64 a,.string x,.float .f64 f]=tokV t'/\
    Mv b h (hset (hset (hset (hset hv29 h.size 0 (.int .i64 k)) h.size (0+1) (.int .i64 a)) h.size ((0+1)+1) (.string x)) h.size (((0+1)+1)+1) (.float .f64 f)) j':=by
   rintro k a x f hv29 ⟨t,j,e,q,M⟩
   cases e
   exact fin t j hv29 q M
  have H2:∀x∈([hv2.size,h.size]:List Nat),x∉([b]:List Nat):=by simp;omega
  have H0:∀x∈([hv2.size,h.size]:List Nat),x∉([]:List Nat):=by simp
  refine⟨J,?_,fun k a x f hv29 q=>out q⟩
  refine cnd_eq (fun q1=>?_) fun q1=>?_
  ·rw [if_pos (by omega)]at hnx
   intro hv6
   have M6:Mv b h hv6 p:=M4.hsetn (by omega)
   clear_value hv6
   have L6:=L.mv M6
   refine⟨b,0,rfl,_,L6.c1,b,0,rfl,by omega,by omega,L6.cell,L6.fr,?_⟩
   rw[wrN (by omega)]
   exact⟨_,_,rfl,hnx,M6.trans (Mv.to L6 (p+1))⟩
  rw[if_neg (by omega)]at hnx
  refine⟨J,?_,fun k a x f hv29 q=>q⟩
  refine cnd_eq (fun q2=>?_) fun q2=>?_
  ·rw [if_pos (by omega)]at hnx
   intro hv6
   have M6:Mv b h hv6 p:=M4.hsetn (by omega)
   clear_value hv6
   have L6:=L.mv M6
   refine⟨b,0,rfl,_,L6.c1,b,0,rfl,by omega,by omega,L6.cell,L6.fr,?_⟩
   rw[wrN (by omega)]
   exact⟨_,_,rfl,hnx,M6.trans (Mv.to L6 (p+1))⟩
  rw[if_neg (by omega)]at hnx
  refine⟨J,?_,fun k a x f hv29 q=>q⟩
  refine cnd_eq (fun q3=>?_) fun q3=>?_
  ·rw [if_pos (by omega)]at hnx
   refine callP_of [b] (ok202 L4 hlt hs) H2 (fun v h' r=>?_) (fun v h' r=>?_) (fun v h' r=>?_) fun v h' r=>?_
   ·obtain ⟨_,_,_,_,r⟩:=r;exact r.fr
   ·obtain ⟨_,_,_,r⟩:=r;exact r
   ·obtain ⟨l,j,e,rfl,M⟩:=r
    refine⟨_,rfl,?_⟩
    rw[e]at hnx
    exact⟨⟨5,p,G.mkB l,0⟩,j,rfl,hnx,((M4.trans M).hsetn (by omega)).hsetn (by omega)⟩
   ·obtain ⟨f,e,rfl,M⟩:=r
    rw[e]at hnx
    exact⟨f,hnx,rfl,M4.fr.trans M⟩
  rw[if_neg (by omega)]at hnx
  refine call_fn ok203 ⟨_,rfl,?_⟩
  refine⟨J,?_,fun k a x f hv29 q=>q⟩
  refine cnd_b (fun q4=>?_) fun q4=>?_
  ·rw [if_pos q4]at hnx
   intro hv14
   have M14:Mv b h hv14 p:=M4.hsetn (by omega)
   clear_value hv14
   have L14:=L.mv M14
   refine callX_ofR [b] (ok204 (fun n h=>ok205) rfl L14 hp2 hs) H2 (fun _ _ r=>r.2.fr) fun v hv15 r=>?_
   obtain⟨rfl,M⟩:=r
   exact⟨_,rfl,_,_,rfl,hnx,(M14.trans M).hsetn (by omega)⟩
  rw[if_neg (by rw[q4];simp)]at hnx
  have num:nextP s p= .ok (⟨4,p,s.extract p (G.run G.numbB s p),0⟩,G.run G.numbB s p)->
    (let hv18:Heap:=hset hv4 hv2.size 0 (.int .i64 4)
     callX Tryz.prog 204 #[.pointer (some ⟨b,0,none⟩),.func (.func 207) #[] #[]] hv18 [hv2.size,h.size] fun v6 hv19=>
     ∃r5:ByteArray,v6= .string r5/\
     let hv20:Heap:=hset hv19 hv2.size 2 (.string r5)
     J [.int .i64 4,.int .i64 p,.string r5,.float .f64 0] hv20):=by
   intro hnx hv18
   have M14:Mv b h hv18 p:=M4.hsetn (by omega)
   clear_value hv18
   have L14:=L.mv M14
   refine callX_ofR [b] (ok204 (fun n h=>ok207) rfl L14 hp2 hs) H2 (fun _ _ r=>r.2.fr) fun v hv15 r=>?_
   obtain⟨rfl,M⟩:=r
   exact⟨_,rfl,_,_,rfl,hnx,(M14.trans M).hsetn (by omega)⟩
  refine call_fn ok206 ⟨_,rfl,?_⟩
  refine cnd_b (fun q5=>?_) fun q5=>?_
  ·exact num (by rw[if_pos (.inl q5)]at hnx;exact hnx)
  refine cnd_eq (fun q6=>?_) fun q6=>?_
  ·exact num (by rw[if_pos (.inr (.inl (by omega)))]at hnx;exact hnx)
  refine cnd_eq (fun q7=>?_) fun q7=>?_
  ·exact num (by rw[if_pos (.inr (.inr (.inl (by omega))))]at hnx;exact hnx)
  refine⟨J,?_,fun k a x f hv29 q=>q⟩
  refine cnd_eq (fun q8=>?_) fun q8=>?_
  ·exact num (by rw[if_pos (.inr (.inr (.inr (by omega))))]at hnx;exact hnx)
  ·rw [if_neg (by rw[q5];simp;omega)]at hnx
   refine⟨b,0,rfl,_,L4.c1,?_⟩
   exact callFail ⟨_,hnx,rfl,M4.fr⟩
theorem _root_.Go.X.Gl.fr {gl:GL} {h h':Heap} {M:List Nat} (g:Gl gl h) (f:Fr M h h') (hm:∀b∈glB gl,b∉M):Gl gl h':=g.congr fun b hb=>f.blk b (g.lt b hb) (hm b hb)
def RdOK (rd:ByteArray->Option (Nat × Nat)) (gl:GL):Prop:=
 ∀(t:ByteArray) (x e:Nat),rd t=some (x,e)->∀h,Gl gl h->CallsH Tryz.prog 260 #[.string t] h fun v h'=>v= .tuple #[.float .f64 x,.int .i64 (e:Int)]/\Fr [] h h'
theorem _root_.Go.X.Fr.hsetL {h h1:Heap} {M:List Nat} (f:Fr M h h1) {p o:Nat} {v:Value} (hp:h.size<=p):Fr M h (hset h1 p o v):=f.hsetr (.inl hp)
theorem str_eq {a b:ByteArray}:(a.toList==b.toList)=decide (a.data.toList=b.data.toList):=by
 rw[Lib.toList_data a,Lib.toList_data b]
 by_cases h:a.data.toList=b.data.toList
 ·rw [decide_eq_true h,h];simp
 ·rw [decide_eq_false h];simpa using h
theorem ok208 {rd:ByteArray->Option (Nat × Nat)} {gl:GL} (hr:RdOK rd gl) {t:G.Tok} {h:Heap} (g:Gl gl h) (hu:G.valued rd t≠ .un):
  CallsP Tryz.prog 208 #[tokV t] h (fun v h'=>∃t',G.valued rd t= .ok t'/\v=tokV t'/\Fr [] h h') (fun v h'=>∃f,G.valued rd t= .no f/\v=flt f/\Fr [] h h'):=by
 unfold tokV
 apply calls208
 unfold S208
 intro hv hv2
 have f2:Fr [] h hv2:=(Fr.push h _).pushr _
 have e1:hv.size=h.size+1:=by simp[hv]
 have e2:hv2.size=h.size+2:=by simp[hv2,hv]
 clear_value hv2
 clear_value hv
 intro K
 have H:∀x∈([hv.size,h.size]:List Nat),x∉([]:List Nat):=by simp
 have fin:∀(t':G.Tok) (hv15:Heap),G.valued rd t= .ok t'->Fr [] h hv15->
   ∃t'',G.valued rd t= .ok t''/\Value.agg #[.int .i64 (t'.kind:Int),.int .i64 (t'.at_:Int),.string t'.says,.float .f64 t'.num]=tokV t''/\
    Fr [] h (hset (hset (hset (hset hv15 hv.size 0 (.int .i64 (t'.kind:Int))) hv.size (0+1) (.int .i64 (t'.at_:Int))) hv.size ((0+1)+1) (.string t'.says)) hv.size (((0+1)+1)+1) (.float .f64 t'.num)):=
  fun t' hv15 q f=>⟨t',q,rfl,(((f.hsetL (by omega)).hsetL (by omega)).hsetL (by omega)).hsetL (by omega)⟩
 let J:List Value->Heap->Prop:=fun l h'=>∃t',l=tokL t'/\G.valued rd t= .ok t'/\Fr [] h h'
 have out:∀{k a:Int} {x:ByteArray} {f:Nat} {hv15:Heap},J [.int .i64 k,.int .i64 a,.string x,.float .f64 f] hv15->
   ∃t'',G.valued rd t= .ok t''/\Value.agg #[.int .i64 k,.int .i64 a,.string x,.float .f64 f]=tokV t''/\
    Fr [] h (hset (hset (hset (hset hv15 hv.size 0 (.int .i64 k)) hv.size (0+1) (.int .i64 a)) hv.size ((0+1)+1) (.string x)) hv.size (((0+1)+1)+1) (.float .f64 f)):=by
  rintro k a x f hv15 ⟨t',e,q,f'⟩
  cases e
  exact fin t' hv15 q f'
 have bad:(t.kind=0\/t.kind=2)->K true hv2:=by
  intro q
  refine cnd_t rfl ?_
  refine callFail ⟨_,?_,rfl,f2⟩
  unfold G.valued
  rw[if_pos q]
 have good:¬(t.kind=0\/t.kind=2)->K false hv2:=by
  intro q
  have hv0:G.valued rd t=(if t.kind=3 then
    if t.l=G.kNaN\/t.l=G.kINF then
     match rd t.says with
     | some (x,_)=>.ok {t with kind:=4,num:=x}
     | none=>.un
    else .no (t.at_,16)
   else if t.kind=4 then
    match rd t.says with
    | some (x,0)=>.ok {t with num:=x}
    | some (_,e+1)=>.no (t.at_,e+1)
    | none=>.un
   else .ok t):=by
   unfold G.valued
   rw[if_neg q]
   rfl
  refine cnd_f rfl ?_
  refine⟨J,?_,fun k a x f hv15 q=>out q⟩
  refine cnd_eq (fun q3=>?_) fun q3=>?_
  ·rw [if_pos (by omega)]at hv0
   intro K2
   have k2:(t.l=G.kNaN\/t.l=G.kINF)->K2 hv2:=by
    intro q4
    rw[if_pos q4]at hv0
    dsimp-zeta only[K2]
    intro hv8
    have f8:Fr [] h hv8:=f2.hsetL (by omega)
    clear_value hv8
    cases hrd:rd t.says with
    | none=>rw[hrd]at hv0;exact absurd hv0 hu
    | some y=>
     obtain⟨x,e⟩:=y
     rw[hrd]at hv0
     refine callX_ofR [] (hr t.says x e hrd hv8 (g.fr f8 (by simp))) H (fun _ _ r=>r.2) fun v hv9 r=>?_
     obtain⟨rfl,f9⟩:=r
     exact⟨x,(e:Int),rfl,{t with kind:=4,num:=x},rfl,hv0,(f8.trans f9).hsetL (Nat.le_refl _)⟩
   rw[str_eq,str_eq]
   have en:(t.says.data.toList=(⟨#[78,97,78]⟩:ByteArray).data.toList)=(t.l=G.kNaN):=rfl
   have ei:(t.says.data.toList=(⟨#[73,78,70]⟩:ByteArray).data.toList)=(t.l=G.kINF):=rfl
   refine cnd_dec (fun q4=>?_) fun q4=>?_
   ·refine callMust (fun _=>⟨rfl,k2 (.inl q4)⟩) fun q=>absurd q (by decide)
   ·refine callMust (fun q5=>⟨rfl,k2 (.inr (of_decide_eq_true q5))⟩) fun q5=>?_
    rw[if_neg (fun q=>q.elim q4 (of_decide_eq_false q5))]at hv0
    exact⟨_,hv0,rfl,f2⟩
  rw[if_neg (by omega)]at hv0
  refine⟨J,?_,fun k a x f hv14 q=>q⟩
  refine cnd_eq (fun q4=>?_) fun q4=>?_
  ·rw [if_pos (by omega)]at hv0
   cases hrd:rd t.says with
   | none=>rw[hrd]at hv0;exact absurd hv0 hu
   | some y=>
    obtain⟨x,e⟩:=y
    rw[hrd]at hv0
    refine callX_ofR [] (hr t.says x e hrd hv2 (g.fr f2 (by simp))) H (fun _ _ r=>r.2) fun v hv11 r=>?_
    obtain⟨rfl,f11⟩:=r
    refine⟨x,(e:Int),rfl,?_⟩
    refine callMust (fun q5=>⟨rfl,?_⟩) fun q5=>?_
    ·obtain rfl:e=0:=by simpa using q5
     exact⟨{t with num:=x},rfl,hv0,(f2.trans f11).hsetL (Nat.le_refl _)⟩
    ·obtain ⟨e',rfl⟩:∃e',e=e'+1:=by
      cases e with
      | zero=>simp at q5
      | succ e=>exact⟨e,rfl⟩
     exact⟨_,hv0,rfl,f2.trans f11⟩
  ·rw [if_neg (by omega)]at hv0
   exact⟨t,rfl,hv0,f2⟩
 refine cnd_eq (fun q=>?_) fun q=>?_
 ·have e:((t.kind:Int)==(0:Int))=true:=by simpa using q
  rw[e]
  exact bad (.inl (by omega))
 ·by_cases q2:t.kind=2
  ·have e:((t.kind:Int)==(2:Int))=true:=by rw[q2];rfl
   rw[e]
   exact bad (.inr q2)
  ·have e:((t.kind:Int)==(2:Int))=false:=by simp;omega
   rw[e]
   exact good (by omega)
end Go.Proofs.YtlflalecmhgmjaaGreatDoor.N
