/- The machine and its runs, part 1: AwEr AwBk RgSeen SetsDa SetsDb SetsDd SetsDe SetsDf SetsDg SetsDh AwCh AwCi AwEm. -/
import Derived.RangeFuncFrom
import Derived.RangeFuncLeaves
import Derived.RangeFuncBox
import Derived.RangeFuncNested
import Derived.Shelf.Abstract
import Derived.WalkKit
import Derived.OwnWalkIn
import Derived.TacticsInMore
import Derived.LoopNIn
import Derived.LoopIn
import Derived.Test.YtokdochbjilecaaGreatDoorProg
import Derived.Stop.RegionWithIn
import Derived.OrdersIn
set_option linter.unusedVariables false
set_option linter.unusedSimpArgs false
set_option linter.unusedSectionVars false
namespace Go
open Go.RowKit
variable{F:Fence}{n:Nat}{P:Program}
def SeqN(F:Fence)(m:Nat)(P:Program)(gf:Nat)(lb:Array Value)(encs:Nat->Array Value)(Kp:World->World->Prop)(N:Nat)(w:World):Prop:=
 ∀(l:Nat) (J:Nat->World->Prop) (W:World),Below w.heap.size w W->(∀k W1,J k W1->J k W1.drew)->(∀k W1,k<N->J k W1->YieldAt F (m-1) P l (encs k) W1 fun e W'=>e=.returned (.bool true)/\J (k+1) W'/\Kp W1 W')->J 0 W->
  CallsIn F m P gf (#[.func (.yield l) #[] #[]]++lb) W fun e W'=>(∃v,e=.returned v)/\J N W'
def Di(B:Nat)(I:World->Prop):Prop:=∀(W:World) (l:Nat) (o o':Obj),I W->B<=l->W.heap[l]?=some o->o.isCells=false->I (W.putObj l o')
set_option maxHeartbeats 1000000 in
theorem rH{g:Operand}{ps:Array Tmp}{assign body:Code}{Q:Exit->Act->World->Prop}{a:Act}{w:World}(hro:F.round=none)(h1:1<=n){gf:Nat}{lb:Array Value}(hg:a.eval g=.func (.func gf) #[] lb)(hFg:F.fn gf)
  (eg:∀args w,(callFunc gf args).run P w=.ok (.enter gf args) w) {encs:Nat->Array Value} {Kp:World->World->Prop} {N:Nat} (hseq:SeqN F (n-1) P gf lb encs Kp N w) (hKt:∀{A B C:World},Kp A B->Kp B C->Kp A C)
  (hKb:∀(W:World) (l:Nat) (o o':Obj),w.heap.size<=l->W.heap[l]?=some o->o.isCells=false->o.isWalk=false->Kp W (W.putObj l o')) (hps:∀k,(encs k).size=ps.size)
  (I:Nat->World->Prop) (A:Nat->Act->World->Prop) (hI:∀k,Di w.heap.size (I k)) (hA:∀k a1,Di w.heap.size (A k a1)) (hId:∀k W,I k W->I k W.drew) (h0:∀o1 o2,I 0 ((w.alloc o1).alloc o2))
  (hassign:∀(l k:Nat) (W:World),k<N->I k W->assign.wpIn (F.inRound l) (n-1-1) P (Exit.then (fun a1 W1=>KeepsOthers W W1/\Kp W W1/\A k a1 W1) (fun _ _ _=>False)) {tmps:=(ps.zip (encs k)).foldl (fun t (p,v)=>t.setIfInBounds p v) a.tmps,defers:=[]} W)
  (hbody:∀(l k:Nat) (a1:Act) (W1:World),k<N->A k a1 W1->body.wpIn (F.inRound l) (n-1-1) P (fun e _ W'=>e=.normal/\KeepsOthers W1 W'/\Kp W1 W'/\I (k+1) W') a1 W1)
  (hdone:∀(D:Nat) (W:World),w.heap.size<=D->I N W->W.heap[D]?=some (.deferred (some []))->Q .normal {a with defers:={target:=.collected D,args:=#[]}::a.defers} W):
  (Code.rangeFunc g ps assign body).wpIn F n P Q a w:=by
 refine wpIn_rangeFunc fun fn hfn=>?_
 rw[hro]
 obtain⟨R,hR⟩:∃R:LoopState->Option Code->Loop,R=fun st pe=>{state:=st,pending:=pe,fn,tmps:=a.tmps,params:=ps,assign,body,defers:=w.heap.size}:=⟨_,rfl⟩
 obtain⟨W1,hW1⟩:∃W1,(w.alloc (.deferred (some []))).alloc (.loop (R .ready none))=W1:=⟨_,rfl⟩
 have hL:W1.heap[w.heap.size+1]?=some (.loop (R .ready none)):=by
  have:=World.alloc_heap_new (w.alloc (.deferred (some []))) (.loop (R .ready none))
  rw[World.size_alloc,hW1]at this
  exact this
 have hD:W1.heap[w.heap.size]?=some (.deferred (some [])):=by
  rw[<-hW1];exact(Below.heap_alloc _ _ _ (by simp)).trans (World.alloc_heap_new w _)
 have hb:Below w.heap.size w W1:=by
  rw[<-hW1];exact((Below.refl _ w).alloc (Nat.le_refl _) _).alloc (by simp) _
 refine⟨w.heap.size+1,[{target:=.collected w.heap.size,args:=#[]}],W1,{target:=.fn (.func gf) lb,args:=#[.func (.yield (w.heap.size+1)) #[] #[]]},W1,gf,#[.func (.yield (w.heap.size+1)) #[] #[]]++lb,W1,?_,?_,?_,?_,fun _=>h1,?_⟩
 ·rw[<-hW1,hR];exact run_enterLoop_outer _ _ _ _ _
 ·simp only[resolve,hg]
  simp[go_sem]
 ·intro f' hf';simp[Target.leads]at hf';subst hf';exact hFg
 ·simp[invoke,go_sem,eg]
 refine(hseq (w.heap.size+1) (fun k W=>I k W/\W.heap[w.heap.size+1]?=some (.loop (R .ready none))/\W.heap[w.heap.size]?=some (.deferred (some []))) W1 hb (fun k X h=>⟨hId k X h.1,h.2⟩) ?_ ⟨by rw[<-hW1];exact h0 _ _,hL,hD⟩).mono ?_
 ·rintro k X hk ⟨hi,hl,hd⟩
  have hy:=run_yield (P:=P) (args:=encs k) hl (by rw[hR];exact hps k)
  rw[hR]at hy
  refine⟨fn,_,assign,body,hy,roundIn_of_wpIn hfn (wpIn_mono (hassign _ k X hk hi) ?_)⟩
  rintro e a1 Y hp
  cases e with
  |normal=>
   obtain⟨hko,hkp,hAk⟩:=hp
   have hlY:=hko.same _ _ hl rfl
   have hdY:=hko.same _ _ hd rfl
   have hltY:=(Array.getElem?_eq_some_iff.1 hlY).1
   refine⟨_,run_beginRound hlY (by rw[hR]),?_⟩
   refine wpIn_mono (hbody _ k a1 _ hk (hA k a1 _ _ _ _ hAk (by omega) hlY rfl)) ?_
   rintro e a3 Z ⟨rfl,hko2,hkp2,hi2⟩
   have hlZ:=hko2.same _ _ (World.putObj_heap_same hltY) rfl
   have hdZ:=hko2.same _ _ ((World.putObj_heap_other (by omega)).trans hdY) rfl
   have he:=run_endRound (P:=P) none hlZ
   refine⟨_,_,he,rfl,⟨hI _ _ _ _ _ hi2 (by omega) hlZ rfl,?_,(World.putObj_heap_other (by omega)).trans hdZ⟩,hKt hkp (hKt (hKb _ _ _ _ (by omega) hlY rfl rfl) (hKt hkp2 (hKb _ _ _ _ (by omega) hlZ rfl rfl)))⟩
   have:=World.putObj_heap_same (o:=.loop {({R .ready none with state:=.busy}:Loop)with state:=.ready,pending:=none}) (Array.getElem?_eq_some_iff.1 hlZ).1
   refine this.trans ?_
   rw[hR]
  |ret=>exact hp.elim
  |exit id=>exact hp.elim
  |goto t=>exact hp.elim
  |panic ch=>exact hp.elim
  |outgrown=>exact hp.elim
 ·rintro e W2 ⟨⟨v,rfl⟩,hi,hl,hd⟩
  have he:=run_endLoop (P:=P) hl (by rw[hR];simp)
  rw[hR]at he
  exact⟨none,_,he,hdone _ _ (Nat.le_refl _) (hI _ _ _ _ _ hi (by omega) (by rw[hR]at hl;exact hl) rfl) ((World.putObj_heap_other (by omega)).trans hd)⟩
end Go
namespace Go.Proofs
open Go.RowKit Go.Shelf
set_option maxRecDepth 100000
attribute [local go_sem] Oper.semAt_some
def Bb.bl(z:Nat->Int):Value:=.agg #[.int .u8 (z 0),.int .u8 (z 1),.int .u8 (z 2),.int .u8 (z 3),.int .u8 (z 4),.int .u8 (z 5),.int .u8 (z 6),.int .u8 (z 7)]
def Bb.upto(len k:Nat):List Nat:=(List.range k).map fun j=>len-1-j
def Bb.Kp(n₀ Bs:Nat)(A B:World):Prop:=Below n₀ A B/\B.heap[Bs]?=A.heap[Bs]?
theorem Bb.Kp.refl(n₀ Bs:Nat)(A:World):Bb.Kp n₀ Bs A A:=⟨Below.refl _ _,rfl⟩
theorem Bb.Kp.trans{n₀ Bs:Nat}{A B C:World}(h:Bb.Kp n₀ Bs A B)(k:Bb.Kp n₀ Bs B C):Bb.Kp n₀ Bs A C:=⟨h.1.trans k.1,k.2.trans h.2⟩
def Bb.Cells(b off len:Nat)(z:Nat->Nat->Int)(W:World):Prop:=∀j,j<len->∀k,k<8->W.cell? ⟨b,off+j*8+k,none⟩=some (.int .u8 (z j k))
set_option maxRecDepth 100000 in
set_option maxHeartbeats 4000000 in
theorem Bb.IZ(F:Fence)(n:Nat)(h129:F.fn 129)(hro:F.round=none)(hn:1<=n)(l Bs n₀ b off len cap:Nat)(z:Nat->Nat->Int)(hreach:len<=100)(hb:b<n₀)(J:Nat->World->Prop)
  (hY:∀(k:Nat) W,k<len->J k W->YieldAt F (n-1) Tryz.prog l #[.int .i64 ((len-1-k:Nat):Int),Bb.bl (z (len-1-k))] W fun e W'=>e=.returned (.bool true)/\J (k+1) W'/\Bb.Kp n₀ Bs W W')
  (W:World) (hBs:W.cell? ⟨Bs,0,none⟩=some (.slice (some ⟨b,off,none⟩) len cap)) (hc:Bb.Cells b off len z W) (h0:J 0 W):
  CallsIn F n Tryz.prog 129 #[.func (.yield l) #[] #[],.pointer (some ⟨Bs,0,none⟩)] W fun e W'=>(∃v,e=.returned v)/\J len W':=by
 refine callsIn_of_wp Tryz.func129 rfl h129 ?_ hro
 simp only[Tryz.ntmps129,List.size_toArray,List.length_cons,List.length_nil,Nat.reduceAdd,Nat.reduceSub,Array.replicate_succ,Array.replicate_zero,List.push_toArray,List.append_toArray,List.nil_append,List.cons_append]
 gi_wp2
 gi_loopw [3] (fun i wr=>∃r:Nat,r<=len/\i=.int .i64 ((r:Int)-1)/\J (len-r) wr/\Bb.Kp n₀ Bs W wr)
  (fun i _=>(intOf i+1).toNat)
 case atStart=>exact⟨len,Nat.le_refl _,by simp,by simpa using h0,Bb.Kp.refl _ _ _⟩
 case round=>
  obtain⟨r,hr,rfl,hJs,hnx⟩:=hrel
  have hbx:wr.cell? ⟨Bs,0,none⟩=some (.slice (some ⟨b,off,none⟩) len cap):=by rw[<-hBs];simp only[World.cell?,hnx.2]
  cases r with
  |zero=>
   gi_wp2
   go_end0
   exact⟨⟨_,rfl⟩,by simpa using hJs⟩
  |succ r=>
   have hri:((r+1:Nat):Int)-1=(r:Int):=by omega
   rw[hri]
   have hcx:∀k,k<8->wr.cell? ⟨b,off+r*8+k,none⟩=some (.int .u8 (z r k)):=fun k hk=>(hnx.1.cell (p:=⟨b,off+r*8+k,none⟩) hb).trans (hc r (by omega) k hk)
   have c0:=hcx 0 (by omega)
   have c1:=hcx 1 (by omega)
   have c2:=hcx 2 (by omega)
   have c3:=hcx 3 (by omega)
   have c4:=hcx 4 (by omega)
   have c5:=hcx 5 (by omega)
   have c6:=hcx 6 (by omega)
   have c7:=hcx 7 (by omega)
   simp only[Nat.add_zero]at c0
   clear hcx
   obtain⟨fn,tmps,assign,body,hy,hR⟩:=hY (len-(r+1)) wr (by omega) hJs
   have e1:len-1-(len-(r+1))=r:=by omega
   have e2:len-(r+1)+1=len-r:=by omega
   rw[e1]at hy
   rw[e2]at hR
   simp only[Bb.bl]at hy
   gi_wp2
   refine hR.mono ?_
   rintro e W3 ⟨rfl,hJ3,hk3⟩
   gi_wp2
   go_roundw
   case rel=>exact⟨r,by omega,by simp,hJ3,hnx.trans hk3⟩
   case measure=>simp[intOf]
set_option maxHeartbeats 1000000 in
theorem Bb.LH(F:Fence)(n:Nat)(h82:F.fn 82)(hro:F.round=none)(a:Option Addr)(len cap:Nat)(w:World):
  CallsIn F n Tryz.prog 82 #[.slice a len cap] w fun e w'=>e=.returned (.func (.func 129) #[] #[.pointer (some ⟨w.heap.size,0,none⟩)])/\w'=w.alloc (.cells #[.slice a len cap] 114):=by
 refine callsIn_of_wp Tryz.func82 rfl h82 ?_ hro
 simp only[Tryz.ntmps82,List.size_toArray,List.length_cons,List.length_nil,Nat.reduceAdd,Nat.reduceSub,Array.replicate_succ,Array.replicate_zero,List.push_toArray,List.append_toArray,List.nil_append,List.cons_append]
 gi_wp2
 go_ret
 exact⟨rfl,rfl⟩
theorem Bb.Cells.below{n₀ b off len:Nat}{z:Nat->Nat->Int}{A B:World}(h:Below n₀ A B)(hb:b<n₀)(hc:Bb.Cells b off len z A):Bb.Cells b off len z B:=fun j hj k hk=>(h.cell (p:=⟨b,off+j*8+k,none⟩) hb).trans (hc j hj k hk)
theorem Bb.IY(F:Fence)(n:Nat)(h129:F.fn 129)(hro:F.round=none)(hn:1<=n)(Bs n₀:Nat)(b off len cap:Nat)(z:Nat->Nat->Int)(hreach:len<=100)(w:World)(hBs:Bs<w.heap.size)(hn₀:n₀<=w.heap.size)
  (hc:w.cell? ⟨Bs,0,none⟩=some (.slice (some ⟨b,off,none⟩) len cap)) (hb:b<n₀) (hI:Bb.Cells b off len z w):
  SeqN F n Tryz.prog 129 #[.pointer (some ⟨Bs,0,none⟩)] (fun k=>#[Value.int .i64 ((len-1-k:Nat):Int),Bb.bl (z (len-1-k))]) (Bb.Kp n₀ Bs) len w:=fun l J W hW _ hY h0=>
 Bb.IZ F n h129 hro hn l Bs n₀ b off len cap z hreach hb J (fun k X hk hj=>hY k X hk hj) W ((hW.cell (p:=⟨Bs,0,none⟩) hBs).trans hc) (hI.below (hW.mono hn₀) hb) h0
end Go.Proofs
namespace Go
open Go.RowKit
variable{F:Fence}{n:Nat}{P:Program}{w:World}
structure TurnsC(B:Nat)(C:Nat->Prop)(W W':World):Prop where
 size:W.heap.size<=W'.heap.size
 same:∀(k:Nat) (o:Obj),W.heap[k]?=some o->¬C k->(o.isCells=true\/B<=k)->W'.heap[k]?=some o
theorem TurnsC.refl(B:Nat)(C:Nat->Prop)(W:World):TurnsC B C W W:=⟨Nat.le_refl _,fun _ _ h _ _=>h⟩
theorem TurnsC.trans{B:Nat}{C C':Nat->Prop}{X Y Z:World}(h:TurnsC B C X Y)(k:TurnsC B C' Y Z)(hC:∀b,C' b->C b\/X.heap.size<=b):TurnsC B C X Z:=
 ⟨Nat.le_trans h.size k.size,fun i o hi hc ho=>k.same i o (h.same i o hi hc ho) (fun e=>(hC i e).elim hc fun h2=>by have:=(Array.getElem?_eq_some_iff.1 hi).1;omega) ho⟩
def Fe{α β:Type}(F:Fence)(n:Nat)(P:Program)(g:Nat)(lb:Array Value)(enc:α->Value)(Seen:Nat->α->World->Prop)(val:α->β)(out:List β)(D:Nat->Prop)(w:World):Prop:=
 ∀(l:Nat) (J:List α->(Nat->Prop)->World->Prop) (C:Nat->Prop) (W:World),Below w.heap.size w W->(∀C,OwnFrom W.heap.size (fun pre X=>J pre C X))->(∀k,C k->k<W.heap.size/\¬D k)->
  (∀pre C x W1,J pre C W1->(∀k,C k->k<W1.heap.size)->W.heap.size<=W1.heap.size->Seen W.heap.size x W1->pre.length<out.length->YieldAt F (n-1) P l #[enc x] W1 fun e W'=>
   e=.returned (.bool true)/\∃C',J (pre++[x]) C' W'/\(∀k,C' k->k<W'.heap.size/\(C k\/W1.heap.size<=k))/\TurnsC W.heap.size C W1 W')->
  J [] C W->
  CallsIn F n P g (#[.func (.yield l) #[] #[]]++lb) W fun e W'=>(∃v,e=.returned v)/\∃xs C',xs.map val=out/\J xs C' W'
def GY{α:Type}(B:Nat)(I:List α->(Nat->Prop)->World->Prop)(xs:List α)(C:Nat->Prop)(W:World):Exit->Act->World->Prop
 | .normal,_,W'=>∃C',I xs C' W'/\(∀k,C' k->k<W'.heap.size/\(C k\/W.heap.size<=k))/\TurnsC B C W W'
 |_,_,_=>False
set_option maxHeartbeats 1000000 in
theorem mu{α β:Type}{g:Operand}{p:Tmp}{assign body:Code}{Q:Exit->Act->World->Prop}{a:Act}
  (hro:F.round=none) (h1:F.depth.isSome=true->1<=n) {gf:Nat} {lb:Array Value} (hg:a.eval g=.func (.func gf) #[] lb) (hFg:F.fn gf) (eg:∀args w,(callFunc gf args).run P w=.ok (.enter gf args) w)
  {enc:α->Value} {Seen:Nat->α->World->Prop} {val:α->β} {out:List β} {D:Nat->Prop} {w0:World} (hseq:Fe F (n-1) P gf lb enc Seen val out D w0) (hb0:Below w0.heap.size w0 w)
  (hSeen:∀B x W l o o',Seen B x W->l<B->W.heap[l]?=some o->o.isCells=false->Seen B x (W.putObj l o'))
  (I:List α->(Nat->Prop)->World->Prop) (hI:∀C,OwnFrom w.heap.size (fun pre X=>I pre C X)) (C0:Nat->Prop) (hC0:∀k,C0 k->k<w.heap.size/\¬D k) (h0:I [] C0 w) (a₁:α->Act)
  (hassign:∀(l:Nat) (x:α) (W:World) (K:Act->World->Prop),K (a₁ x) W->
   assign.wpIn (F.inRound l) (n-1-1) P (Exit.then K (fun _ _ _=>False)) {tmps:=(#[p].zip #[enc x]).foldl (fun t (p,v)=>t.setIfInBounds p v) a.tmps,defers:=[]} W)
  (hbody:∀(l:Nat) (pre:List α) (C:Nat->Prop) (x:α) (W:World),I pre C W->(∀k,C k->k<W.heap.size)->w.heap.size+2<=W.heap.size->Seen (w.heap.size+2) x W->pre.length<out.length->body.wpIn (F.inRound l) (n-1-1) P (GY w.heap.size I (pre++[x]) C W) (a₁ x) W)
  (hdone:∀(D:Nat) (xs:List α) (C:Nat->Prop) (W:World),w.heap.size<=D->¬C D->xs.map val=out->I xs C W->W.heap[D]?=some (.deferred (some []))->Q .normal {a with defers:={target:=.collected D,args:=#[]}::a.defers} W):
  (Code.rangeFunc g #[p] assign body).wpIn F n P Q a w:=by
 refine wpIn_rangeFunc ?_
 intro fn hfn
 rw[hro]
 obtain⟨rec,hrec⟩:∃rec:LoopState->Option Code->Loop,rec=fun st pe=>{state:=st,pending:=pe,fn,tmps:=a.tmps,params:=#[p],assign,body,defers:=w.heap.size}:=⟨_,rfl⟩
 obtain⟨W1,hW1⟩:∃W1,(w.alloc (.deferred (some []))).alloc (.loop (rec .ready none))=W1:=⟨_,rfl⟩
 have sz1:W1.heap.size=w.heap.size+2:=by rw[<-hW1];simp
 have hL1:W1.heap[w.heap.size+1]?=some (.loop (rec .ready none)):=by
  rw[<-hW1];have:=World.alloc_heap_new (w.alloc (.deferred (some []))) (.loop (rec .ready none));rwa [World.size_alloc]at this
 have hK1:W1.heap[w.heap.size]?=some (.deferred (some [])):=by
  rw[<-hW1];exact(Below.heap_alloc _ _ _ (by simp)).trans (World.alloc_heap_new w _)
 have hI1:I [] C0 W1:=by rw[<-hW1];exact(hI C0).alloc _ ((hI C0).alloc _ h0)
 have hb1:Below w0.heap.size w0 W1:=by
  rw[<-hW1];exact hb0.trans ((((Below.refl _ w).alloc (Nat.le_refl _) _).alloc (by simp) _).mono hb0.size)
 refine⟨w.heap.size+1,[{target:=.collected w.heap.size,args:=#[]}],W1,{target:=.fn (.func gf) lb,args:=#[.func (.yield (w.heap.size+1)) #[] #[]]},W1,gf,
  #[.func (.yield (w.heap.size+1)) #[] #[]]++lb,W1,?_,?_,?_,?_,h1,?_⟩
 ·rw[<-hW1,hrec];exact run_enterLoop_outer _ _ _ _ _
 ·simp only[resolve,hg]
  simp[go_sem]
 ·intro f' hf';simp[Target.leads]at hf';subst hf';exact hFg
 ·simp[invoke,go_sem,eg]
 ·have hcell:∀{l:Nat} {o:Obj} {A B:World} {row:Option Nat},l<W1.heap.size->A.heap[l]?=some o->A.grownBy B row->(∀r,row=some r->W1.heap.size<=r/\∃o:Obj,A.heap[r]?=some o/\o.isCells=false)->B.heap[l]?=some o:=fun hlt ho hg' hr=>
   (hg'.block _ (Array.getElem?_eq_some_iff.1 ho).1 (fun e=>by have:=(hr _ e.symm).1;omega)).trans ho
  refine(hseq (w.heap.size+1)
   (fun pre C W=>I pre C W/\¬C w.heap.size/\¬C (w.heap.size+1)/\W.heap[w.heap.size+1]?=some (.loop (rec .ready none))/\W.heap[w.heap.size]?=some (.deferred (some [])))
   C0 W1 hb1
   (fun C s A B row hs hg' hr=>⟨hI C s A B row hs.1 hg' (fun r e=>⟨by have:=(hr r e).1;omega,(hr r e).2⟩),hs.2.1,hs.2.2.1,hcell (by omega) hs.2.2.2.1 hg' hr,hcell (by omega) hs.2.2.2.2 hg' hr⟩)
   (fun k hk=>⟨by have:=(hC0 k hk).1;omega,(hC0 k hk).2⟩) ?_ ⟨hI1,fun e=>by have:=(hC0 _ e).1;omega,fun e=>by have:=(hC0 _ e).1;omega,hL1,hK1⟩).mono ?_
  ·rintro pre C x W ⟨hi,nc0,nc1,hl,hk⟩ hC hsz hsn hlen
   rw[sz1]at hsz hsn
   have hy:=run_yield (P:=P) (args:=#[enc x]) hl (by rw[hrec];rfl)
   rw[hrec]at hy
   refine⟨fn,_,assign,body,hy,roundIn_of_wpIn hfn (hassign _ x W _ ?_)⟩
   clear hy
   have hlt:w.heap.size+1<W.heap.size:=(Array.getElem?_eq_some_iff.1 hl).1
   refine⟨_,run_beginRound hl (by rw[hrec]),?_⟩
   obtain⟨W2,hW2⟩:∃W2,W.putObj (w.heap.size+1) (.loop {rec .ready none with state:=.busy})=W2:=⟨_,rfl⟩
   have sz2:W2.heap.size=W.heap.size:=by rw[<-hW2];simp
   have hl2:W2.heap[w.heap.size+1]?=some (.loop {rec .ready none with state:=.busy}):=by rw[<-hW2];exact World.putObj_heap_same hlt
   have ho2:∀k,k≠w.heap.size+1->W2.heap[k]?=W.heap[k]?:=fun k hk=>by rw[<-hW2];exact World.putObj_heap_other hk
   have hk2:W2.heap[w.heap.size]?=some (.deferred (some [])):=(ho2 _ (by omega)).trans hk
   have hi2:I pre C W2:=by rw[<-hW2];exact(hI C).putObj _ hi (by omega) hl rfl
   have hs2:Seen (w.heap.size+2) x W2:=by rw[<-hW2];exact hSeen _ _ _ _ _ _ hsn (by omega) hl rfl
   rw[hW2]
   refine wpIn_mono (hbody _ pre C x W2 hi2 (fun k hk=>by have:=hC k hk;omega) (by omega) hs2 hlen) ?_
   rintro e a3 W3 hp
   cases e with
   |normal=>
    obtain⟨C',hi3,hC3,ht⟩:=hp
    have hl3:=ht.same _ _ hl2 nc1 (.inr (by omega))
    have hk3:=ht.same _ _ hk2 nc0 (.inr (Nat.le_refl _))
    have hlt3:w.heap.size+1<W3.heap.size:=(Array.getElem?_eq_some_iff.1 hl3).1
    have hr:(Instr.endRound (w.heap.size+1) none).run P W3=.ok (.bool true) (W3.putObj (w.heap.size+1) (.loop (rec .ready none))):=by
     have:=run_endRound (P:=P) none hl3
     rw[hrec]at this ⊢
     exact this
    have sz3:(W3.putObj (w.heap.size+1) (.loop (rec .ready none))).heap.size=W3.heap.size:=by simp
    have hz:=ht.size
    refine⟨_,_,hr,rfl,C',⟨(hI C').putObj _ hi3 (by omega) hl3 rfl,fun h=>?_,fun h=>?_,World.putObj_heap_same hlt3,(World.putObj_heap_other (by omega)).trans hk3⟩,fun k hk=>?_,by omega,fun k o hk hnc ho=>?_⟩
    ·rcases(hC3 _ h).2 with h|h
     ·exact nc0 h
     ·omega
    ·rcases(hC3 _ h).2 with h|h
     ·exact nc1 h
     ·omega
    ·have:=hC3 k hk
     exact⟨by omega,by rw[<-sz2];exact this.2⟩
    ·have hne:k≠w.heap.size+1:=fun e=>by
      subst e
      rw[hl]at hk
      injection hk with hk;subst hk
      rcases ho with ho|ho
      ·cases ho
      ·omega
     rw[World.putObj_heap_other hne]
     exact ht.same k o ((ho2 k hne).trans hk) hnc (ho.imp id fun h=>by omega)
   |_=>exact hp.elim
  ·rintro e W2 ⟨⟨v,rfl⟩,xs,C',hS,hi,nc0,nc1,hl,hk⟩
   exact⟨none,_,by have:=run_endLoop (P:=P) hl (by rw[hrec];simp);rw[hrec]at this;exact this,hdone _ xs C' _ (Nat.le_refl _) nc0 hS ((hI C').putObj _ hi (by omega) hl rfl) ((World.putObj_heap_other (by omega)).trans hk)⟩
end Go
namespace Go.Proofs
open Go.RowKit Go.Shelf
set_option maxRecDepth 100000
attribute [local go_sem] Oper.semAt_some
def St.gm(disks:Int):Nat->Int->List Int->List (List Int)
 |0,_,p=>[p]
 |k+1,lo,p=>((List.range (disks-(k+1:Nat)-lo+1).toNat).map fun(i:Nat)=>St.gm disks k (lo+(i:Int)+1) (p++[lo+(i:Int)])).flatten
set_option maxHeartbeats 1000000 in
theorem St.Dw(F:Fence)(n:Nat)(h24:F.fn 142)(hro:F.round=none)(pv:Value)(d k:Int)(h1:pv.oneCell'=true)(w:World):
  CallsIn F n Tryz.prog 142 #[pv,.int .i64 d,.int .i64 k] w fun e w'=>e=.returned (.func (.func 197) #[] #[.pointer (some ⟨w.heap.size,0,none⟩),.pointer (some ⟨w.heap.size+2,0,none⟩),.pointer (some ⟨w.heap.size+1,0,none⟩)])/\
   w'=((w.alloc (.cells #[pv] 151)).alloc (.cells #[.int .i64 d] 3)).alloc (.cells #[.int .i64 k] 3):=by
 refine callsIn_of_wp Tryz.func142 rfl h24 ?_ hro
 simp only[Tryz.ntmps142,List.size_toArray,List.length_cons,List.length_nil,Nat.reduceAdd,Nat.reduceSub,Array.replicate_succ,Array.replicate_zero,List.push_toArray,List.append_toArray,List.nil_append,List.cons_append]
 gi_wp2
 go_ret
 simp
attribute [local go_sem] Oper.semAt_some
theorem St.room{F:Fence}(hd:F.depth=none)(k:Nat):F.room k:=fun d h=>by rw[hd]at h;cases h
theorem St.FF{F:Fence}(hd:F.depth=none){m m':Nat}{P:Program}{l:Nat}{f:FuncId}{tmps:Array Value}{assign body:Code}{w:World}{R:Ending->World->Prop}
  (h:RoundIn F m P l f tmps assign body w R):RoundIn F m' P l f tmps assign body w R:=⟨h.1,fun c cs _=>h.2 c cs (St.room hd _)⟩
theorem St.jU{W W':World}(h:Below W.heap.size W W'):W.grownBy W' none:=⟨h.os,h.tape,h.output,h.size,fun k hk _=>h.block k hk⟩
def St.Row(base:Nat)(v:Value)(p:List Int)(W:World):Prop:=W.ownsRow base 3 1 v p.length (p.map (Value.int .i64))/\(v=.slice none 0 0↔p=[])
theorem St.Row.mono{base base':Nat}{v:Value}{p:List Int}{W:World}(h:St.Row base v p W)(hb:base'<=base):St.Row base' v p W:=by
 obtain⟨⟨h1,h2⟩,h3⟩:=h
 refine⟨⟨h1,?_⟩,h3⟩
 rcases h2 with h2|⟨g,cap,cur,e1,e2,e3⟩
 ·exact .inl h2
 ·exact .inr ⟨g,cap,cur,e1,Nat.le_trans hb e2,e3⟩
set_option maxRecDepth 100000 in
set_option maxHeartbeats 2000000 in
theorem St.K8(F:Fence)(hd:F.depth=none)(n:Nat)(h32:F.fn 197)(h33:F.fn 198)(hro:F.round=none)(l Bp Bw Bd:Nat)(a:Option Addr)(c:Nat)(p:List Int)(W:World)(Rj:World->Prop)
  (hCl:∀m W1,Below W.heap.size W W1->CallsIn F m Tryz.prog 198 #[.slice a p.length c] W1 fun e W2=>∃v',e=.returned v'/\St.Row W1.heap.size v' p W2/\Below W1.heap.size W1 W2)
  (hY:∀v' W2,Below W.heap.size W W2->St.Row W.heap.size v' p W2->YieldAt F (n-1) Tryz.prog l #[v'] W2 fun e W'=>e=.returned (.bool true)/\Rj W')
  (cp:W.cell? ⟨Bp,0,none⟩=some (.slice a p.length c)) (cw:W.cell? ⟨Bw,0,none⟩=some (.int .i64 (p.length:Int))):
  CallsIn F n Tryz.prog 197 #[.func (.yield l) #[] #[],.pointer (some ⟨Bp,0,none⟩),.pointer (some ⟨Bw,0,none⟩),.pointer (some ⟨Bd,0,none⟩)] W fun e W'=>(∃v,e=.returned v)/\Rj W':=by
 have hdd:∀k:Nat,(F.depth.isSome=true->1<=k):=fun k h=>by rw[hd]at h;cases h
 obtain⟨W1,hW1⟩:∃W1,W.alloc (.cells #[.func (.yield l) #[] #[]] 281)=W1:=⟨_,rfl⟩
 have b1:Below W.heap.size W W1:=by rw[<-hW1];exact(Below.refl _ W).alloc (Nat.le_refl _) _
 have b1d:Below W.heap.size W W1.drew:=b1.drew
 have lt1:∀{b:Nat} {v:Value},W.cell? ⟨b,0,none⟩=some v->b<W.heap.size:=fun{b v} h=>by
  obtain⟨o,ho,_⟩:=cells_of_cell h
  exact(Array.getElem?_eq_some_iff.1 ho).1
 have cp1:W1.cell? ⟨Bp,0,none⟩=some (.slice a p.length c):=(b1.cell (p:=⟨Bp,0,none⟩) (lt1 cp)).trans cp
 have cw1:W1.cell? ⟨Bw,0,none⟩=some (.int .i64 (p.length:Int)):=(b1.cell (p:=⟨Bw,0,none⟩) (lt1 cw)).trans cw
 have hy1:W1.heap[W.heap.size]?=some (.cells #[.func (.yield l) #[] #[]] 281):=by rw[<-hW1];exact World.alloc_heap_new W _
 have cy1:W1.cell? ⟨W.heap.size,0,none⟩=some (.func (.yield l) #[] #[]):=by simp[World.cell?,hy1]
 have hc1:=(hCl (n-1) W1.drew b1d).mono (R':=fun e W2=>∃v',e=.returned v'/\W2.cell? ⟨W.heap.size,0,none⟩=some (.func (.yield l) #[] #[])/\YieldAt F (n-1) Tryz.prog l #[v'] W2 fun e W'=>e=.returned (.bool true)/\Rj W') (fun e W2 ⟨v',he,hr,hb⟩=>by
  have sz1:W1.drew.heap.size=W.heap.size+1:=by rw[<-hW1];simp[World.drew]
  refine⟨v',he,(hb.cell (p:=⟨W.heap.size,0,none⟩) (by rw[sz1];exact Nat.lt_succ_self _)).trans cy1,hY v' W2 (b1d.trans (hb.mono (by omega))) ?_⟩
  exact hr.mono (by omega))
 refine callsIn_of_wp Tryz.func197 rfl h32 ?_ hro
 simp only[Tryz.ntmps197,List.size_toArray,List.length_cons,List.length_nil,Nat.reduceAdd,Nat.reduceSub,Array.replicate_succ,Array.replicate_zero,List.push_toArray,List.append_toArray,List.nil_append,List.cons_append]
 gi_wp2
 gi_region_with (first|(gi_at_call 198;refine hc1.mono ?_;clear hc1;rintro e W2 ⟨v',rfl,cy2,fn,tmps,assign,body,hy,hR⟩)|(refine hR.mono ?_;clear hR;rintro e W3 ⟨rfl,hj⟩))
 all_goals gi_wp2
 all_goals refine bodyPost_ret (results_none rfl _ _ _) rfl ?_
 all_goals exact⟨⟨_,rfl⟩,hj⟩
attribute [local go_sem] Oper.semAt_some
def St.Sh(g:Nat)(p:List Int)(W:World):Prop:=∀j,j<p.length->W.cell? ⟨g,j,none⟩=some (.int .i64 (p.getD j 0))
theorem St.Nk:(Tryz.prog.info? 3).map (fun i=>(i.zero,i.size,i.bytes))=some (some (.int .i64 0),1,8):=by kernel_rfl
attribute [local go_sem] Oper.semAt_some
theorem St.ek{W:World}{b o:Nat}{v:Value}(h:W.cell? ⟨b,o,none⟩=some v):b<W.heap.size:=by
 obtain⟨o,ho,_⟩:=cells_of_cell h
 exact(Array.getElem?_eq_some_iff.1 ho).1
theorem St.Row.alloc{base:Nat}{v:Value}{p:List Int}{W:World}(h:St.Row base v p W)(o:Obj):St.Row base v p (W.alloc o):=by
 obtain⟨⟨h1,h2⟩,h3⟩:=h
 refine⟨⟨h1,?_⟩,h3⟩
 rcases h2 with h2|⟨g,cap,cur,e1,e2,e3,e4⟩
 ·exact .inl h2
 ·exact .inr ⟨g,cap,cur,e1,e2,(Below.heap_alloc W o g (Array.getElem?_eq_some_iff.1 e3).1).trans e3,e4⟩
theorem St.eJ{W:World}{b k:Nat}{v:Value}(h:W.cell? ⟨b,k,none⟩=some v)(o:Obj):(W.alloc o).cell? ⟨b,k,none⟩=some v:=cell_kept h (World.grownBy_alloc W o none) (fun r e=>by cases e)
attribute [local go_sem] Oper.semAt_some
attribute [-go_sem] Builtin.append_
noncomputable def St.sel:List Bool->Code->Code
 |false::q,.seq x _=>St.sel q x
 |true::q,.seq _ x=>St.sel q x
 |_::q,.block _ x=>St.sel q x
 |_::q,.loop x=>St.sel q x
 |_,x=>x
noncomputable def St.body:Code:=Tryz.f197.body.getD .skip
def St.ShA(a:Option Addr)(p:List Int)(W:World):Prop:=∀j,j<p.length->∃g,a=some ⟨g,0,none⟩/\W.cell? ⟨g,j,none⟩=some (.int .i64 (p.getD j 0))
set_option maxRecDepth 100000 in
set_option maxHeartbeats 0 in
theorem St.FH(F:Fence)(hd:F.depth=none)(n:Nat)(h33:F.fn 198)(h24:F.fn 142)(hro:F.round=none)(Bp Bw Bd:Nat)(a:Option Addr)(pl c:Nat)(kw dk dv:Int)(p':List Int)(wr:World)
  (rp:wr.cell? ⟨Bp,0,none⟩=some (.slice a pl c)) (rw':wr.cell? ⟨Bw,0,none⟩=some (.int .i64 kw)) (rd:wr.cell? ⟨Bd,0,none⟩=some (.int .i64 dk))
  (hcA:CallsIn F (n-1) Tryz.prog 198 #[.slice a pl c] wr.drew fun e W2=>∃v',e=.returned v'/\W2.cell? ⟨Bw,0,none⟩=some (.int .i64 kw)/\W2.cell? ⟨Bd,0,none⟩=some (.int .i64 dk)/\
   (W2.alloc (.cells #[.int .i64 dv] 3)).cell? ⟨Bw,0,none⟩=some (.int .i64 kw)/\(W2.alloc (.cells #[.int .i64 dv] 3)).cell? ⟨Bd,0,none⟩=some (.int .i64 dk)/\
   ∃v3 W3,(Builtin.append_ #[151,151] 151 #[v',.slice (some ⟨W2.heap.size,0,none⟩) 1 1]).run Tryz.prog (W2.alloc (.cells #[.int .i64 dv] 3))=.ok v3 W3/\v3.oneCell'=true/\
    W3.cell? ⟨Bw,0,none⟩=some (.int .i64 kw)/\W3.cell? ⟨Bd,0,none⟩=some (.int .i64 dk)/\St.Row wr.heap.size v3 p' W3/\Below wr.heap.size wr W3)
  (hcB:CallsIn F (n-1) Tryz.prog 198 #[.slice a pl c] (wr.drew.alloc (.cells #[.int .i64 dv] 3)) fun e W2=>∃v',e=.returned v'/\W2.cell? ⟨Bw,0,none⟩=some (.int .i64 kw)/\W2.cell? ⟨Bd,0,none⟩=some (.int .i64 dk)/\
   ∃v3 W3,(Builtin.append_ #[151,151] 151 #[v',.slice (some ⟨wr.heap.size,0,none⟩) 1 1]).run Tryz.prog W2=.ok v3 W3/\v3.oneCell'=true/\
    W3.cell? ⟨Bw,0,none⟩=some (.int .i64 kw)/\W3.cell? ⟨Bd,0,none⟩=some (.int .i64 dk)/\St.Row wr.heap.size v3 p' W3/\Below wr.heap.size wr W3)
  (t0 t4 t5 t7 t8 t9 t10 t11 t12 t13 t14 t15 t16 t17 t18 t19 t20 t21 t22 t23 t24 t25 t26 t27 t28 t29 t30 t31 t32 t33 t34 t35 t36 t37 t38 t39 t40 t41 t42 t43 t44 t45 t46 t47 t48 t49:Value) (ds:List Deferred):
  (St.sel [true,true,true,true,true,true,true,true,false,true,false] St.body).wpIn F n Tryz.prog
   (fun e a w'=>e=.normal/\∃u37 u38 u39 u40 u41 u42 u43 v3 W3,St.Row wr.heap.size v3 p' W3/\Below wr.heap.size wr W3/\w'=((W3.alloc (.cells #[v3] 151)).alloc (.cells #[.int .i64 dk] 3)).alloc (.cells #[.int .i64 kw] 3)/\
    a={tmps:=#[t0,.pointer (some ⟨Bp,0,none⟩),.pointer (some ⟨Bw,0,none⟩),.pointer (some ⟨Bd,0,none⟩),t4,t5,.int .i64 dv,t7,t8,t9,t10,t11,t12,t13,t14,t15,t16,t17,t18,t19,t20,t21,t22,t23,t24,t25,t26,t27,t28,t29,t30,t31,t32,t33,t34,t35,t36,u37,u38,u39,u40,u41,u42,u43,
     .func (.func 197) #[] #[.pointer (some ⟨W3.heap.size,0,none⟩),.pointer (some ⟨W3.heap.size+2,0,none⟩),.pointer (some ⟨W3.heap.size+1,0,none⟩)],t45,t46,t47,t48,t49],defers:=ds})
   {tmps:=#[t0,.pointer (some ⟨Bp,0,none⟩),.pointer (some ⟨Bw,0,none⟩),.pointer (some ⟨Bd,0,none⟩),t4,t5,.int .i64 dv,t7,t8,t9,t10,t11,t12,t13,t14,t15,t16,t17,t18,t19,t20,t21,t22,t23,t24,t25,t26,t27,t28,t29,t30,t31,t32,t33,t34,t35,t36,t37,t38,t39,t40,t41,t42,t43,t44,t45,t46,t47,t48,t49],defers:=ds} wr:=by
 have hdd:∀k:Nat,(F.depth.isSome=true->1<=k):=fun k h=>by rw[hd]at h;cases h
 have bdr:Below wr.heap.size wr wr.drew:=(Below.refl _ wr).drew
 have cdr:∀{b:Nat} {v:Value},wr.cell? ⟨b,0,none⟩=some v->wr.drew.cell? ⟨b,0,none⟩=some v:=fun{b v} h=>(bdr.cell (p:=⟨b,0,none⟩) (St.ek h)).trans h
 have rpd:=cdr rp
 have rwd:=cdr rw'
 have rdd:=cdr rd
 have caw:(wr.drew.alloc (.cells #[.int .i64 dv] 3)).cell? ⟨Bw,0,none⟩=some (.int .i64 kw):=St.eJ (cdr rw') _
 have cad:(wr.drew.alloc (.cells #[.int .i64 dv] 3)).cell? ⟨Bd,0,none⟩=some (.int .i64 dk):=St.eJ (cdr rd) _
 have cap:(wr.drew.alloc (.cells #[.int .i64 dv] 3)).cell? ⟨Bp,0,none⟩=some (.slice a pl c):=St.eJ (cdr rp) _
 have caw2:(wr.alloc (.cells #[.int .i64 dv] 3)).cell? ⟨Bw,0,none⟩=some (.int .i64 kw):=St.eJ rw' _
 have cad2:(wr.alloc (.cells #[.int .i64 dv] 3)).cell? ⟨Bd,0,none⟩=some (.int .i64 dk):=St.eJ rd _
 have cap2:(wr.alloc (.cells #[.int .i64 dv] 3)).cell? ⟨Bp,0,none⟩=some (.slice a pl c):=St.eJ rp _
 obtain⟨cc,hcc⟩:∃cc,cc=St.sel [true,true,true,true,true,true,true,true,false,true,false] St.body:=⟨_,rfl⟩
 rw[<-hcc]
 simp only[St.sel,St.body,Tryz.f197,Option.getD_some]at hcc
 rw[hcc]
 clear hcc cc
 dsimp only
 gi_region_with (first|(rw[hrun])|(gi_at_call 198;refine hcA.mono ?_;rintro e W2 ⟨v',rfl,cw2,cd2,cw2',cd2',v3,W3,hrun,ho3,cw3,cd3,hrow,hbel⟩)|(gi_at_call 198;refine hcB.mono ?_;rintro e W2 ⟨v',rfl,cw2,cd2,v3,W3,hrun,ho3,cw3,cd3,hrow,hbel⟩)|(gi_at_call 142;refine(St.Dw F (n-1) h24 hro v3 _ _ ho3 W3).mono ?_;rintro e W4 ⟨rfl,rfl⟩))
 all_goals exact⟨rfl,_,_,_,_,_,_,_,v3,W3,hrow,hbel,rfl,rfl⟩
attribute [local go_sem] Oper.semAt_some
theorem St.ShA.dF{a:Option Addr}{p:List Int}{W W':World}(h:St.ShA a p W)(hk:∀g j v,a=some ⟨g,0,none⟩->W.cell? ⟨g,j,none⟩=some v->W'.cell? ⟨g,j,none⟩=some v):St.ShA a p W':=
 fun j hj=>let⟨g,e,hc⟩:=h j hj;⟨g,e,hk g j _ e hc⟩
theorem St.ShA.below{a:Option Addr}{p:List Int}{W W':World}(h:St.ShA a p W)(hb:Below W.heap.size W W'):St.ShA a p W':=
 h.dF fun g j _ _ hc=>(hb.cell (p:=⟨g,j,none⟩) (St.ek hc)).trans hc
theorem St.sM{base:Nat}{v:Value}{p:List Int}{W:World}(h:St.Row base v p W)(b:Nat)(d:Int)(hd:W.cell? ⟨b,0,none⟩=some (.int .i64 d))(hbase:base<=W.heap.size)(hl:p.length<=60):
  ∃v3 W3,(Builtin.append_ #[151,151] 151 #[v,.slice (some ⟨b,0,none⟩) 1 1]).run Tryz.prog W=.ok v3 W3/\v3.oneCell'=true/\St.Row base v3 (p++[d]) W3/\Below base W W3:=by
 obtain⟨i0,hi,hz0,hz1,hz2⟩:=info_parts St.Nk
 obtain⟨v3,W3,hrun,r1,r2,r3⟩:=run_append_own (P:=Tryz.prog) W base 151 151 3 i0 (.int .i64 0) 1 8 Tryz.underlying151 hi hz0 hz1 hz2 rfl (by decide) v p.length (p.map (Value.int .i64)) h.1 ⟨b,0,none⟩ 1 1 [.int .i64 d] rfl
  (fun j u hj=>by
   match j,hj with
   |0,hj=>injection hj with hj;subst hj;exact hd) (fun u hu=>by simp at hu;subst hu;rfl) (by simp only[maxLen];omega) (by omega) hbase
 refine⟨v3,W3,hrun,?_,⟨?_,?_⟩,?_⟩
 ·rcases r1.2 with⟨e,_⟩|⟨g,cap,cur,e,_⟩<;>subst e<;>rfl
 ·have:(p++[d]).length=p.length+1:=by simp
  rw[this,List.map_append];exact r1
 ·rw[r3];simp
 ·refine((Below.refl W.heap.size W).mono hbase).grown r2 hbase fun k e=>?_
  rcases h.1.2 with⟨e0,_⟩|⟨g,cap,cur,e0,hg,_⟩
  ·rw[e0]at e;cases e
  ·rw[e0]at e
   injection e with e;subst e;exact hg
def St.Cl(F:Fence):Prop:=∀(a:Option Addr) (p:List Int) (c:Nat),(a=none↔p=[])->p.length<=60->∀m W1,St.ShA a p W1->
 CallsIn F m Tryz.prog 198 #[.slice a p.length c] W1 fun e W2=>∃v',e=.returned v'/\St.Row W1.heap.size v' p W2/\Below W1.heap.size W1 W2
theorem St.NK{F:Fence}{m:Nat}{a:Option Addr}{c:Nat}{p:List Int}(hap:a=none↔p=[])(hl:p.length<=60)(hCl:St.Cl F)
  {wr:World} {Bw Bd:Nat} {kw dk d:Int} (rs:St.ShA a p wr) (rw':wr.cell? ⟨Bw,0,none⟩=some (.int .i64 kw)) (rd:wr.cell? ⟨Bd,0,none⟩=some (.int .i64 dk)):
  CallsIn F m Tryz.prog 198 #[.slice a p.length c] wr.drew fun e W2=>∃v',e=.returned v'/\W2.cell? ⟨Bw,0,none⟩=some (.int .i64 kw)/\W2.cell? ⟨Bd,0,none⟩=some (.int .i64 dk)/\
     (W2.alloc (.cells #[.int .i64 d] 3)).cell? ⟨Bw,0,none⟩=some (.int .i64 kw)/\(W2.alloc (.cells #[.int .i64 d] 3)).cell? ⟨Bd,0,none⟩=some (.int .i64 dk)/\
     ∃v3 W3,(Builtin.append_ #[151,151] 151 #[v',.slice (some ⟨W2.heap.size,0,none⟩) 1 1]).run Tryz.prog (W2.alloc (.cells #[.int .i64 d] 3))=.ok v3 W3/\v3.oneCell'=true/\
      W3.cell? ⟨Bw,0,none⟩=some (.int .i64 kw)/\W3.cell? ⟨Bd,0,none⟩=some (.int .i64 dk)/\St.Row wr.heap.size v3 (p++[d]) W3/\Below wr.heap.size wr W3:=by
 have bd:Below wr.heap.size wr wr.drew:=(Below.refl _ wr).drew
 have sz:wr.drew.heap.size=wr.heap.size:=rfl
 refine(hCl a p c hap hl m wr.drew (rs.below bd)).mono fun e W2 ⟨v',he,hr,hb⟩=>?_
 have lw:=St.ek rw'
 have ld:=St.ek rd
 have cw2:W2.cell? ⟨Bw,0,none⟩=some (.int .i64 kw):=(hb.cell (p:=⟨Bw,0,none⟩) lw).trans ((bd.cell (p:=⟨Bw,0,none⟩) lw).trans rw')
 have cd2:W2.cell? ⟨Bd,0,none⟩=some (.int .i64 dk):=(hb.cell (p:=⟨Bd,0,none⟩) ld).trans ((bd.cell (p:=⟨Bd,0,none⟩) ld).trans rd)
 have hsz:=hb.size
 rw[sz]at hsz
 have ha:Below wr.heap.size W2 (W2.alloc (.cells #[.int .i64 d] 3)):=((Below.refl _ W2).alloc (Nat.le_refl _) _).mono hsz
 have hn:(W2.alloc (.cells #[.int .i64 d] 3)).cell? ⟨W2.heap.size,0,none⟩=some (.int .i64 d):=by
  have:=World.alloc_heap_new W2 (.cells #[.int .i64 d] 3)
  simp only[World.cell?,this]
  rfl
 obtain⟨v3,W3,hrun,ho3,hrow,hb3⟩:=St.sM (hr.alloc _) W2.heap.size d hn (by rw[sz];exact Nat.le_trans hsz ha.size) hl
 exact⟨v',he,cw2,cd2,St.eJ cw2 _,St.eJ cd2 _,v3,W3,hrun,ho3,(hb3.cell (p:=⟨Bw,0,none⟩) lw).trans (St.eJ cw2 _),(hb3.cell (p:=⟨Bd,0,none⟩) ld).trans (St.eJ cd2 _),hrow,bd.trans (hb.trans (ha.trans hb3))⟩
theorem St.NJ{F:Fence}{m:Nat}{a:Option Addr}{c:Nat}{p:List Int}(hap:a=none↔p=[])(hl:p.length<=60)(hCl:St.Cl F)
  {wr:World} {Bw Bd:Nat} {kw dk d:Int} (rs:St.ShA a p wr) (rw':wr.cell? ⟨Bw,0,none⟩=some (.int .i64 kw)) (rd:wr.cell? ⟨Bd,0,none⟩=some (.int .i64 dk)):
  CallsIn F m Tryz.prog 198 #[.slice a p.length c] (wr.drew.alloc (.cells #[.int .i64 d] 3)) fun e W2=>∃v',e=.returned v'/\W2.cell? ⟨Bw,0,none⟩=some (.int .i64 kw)/\W2.cell? ⟨Bd,0,none⟩=some (.int .i64 dk)/\
     ∃v3 W3,(Builtin.append_ #[151,151] 151 #[v',.slice (some ⟨wr.heap.size,0,none⟩) 1 1]).run Tryz.prog W2=.ok v3 W3/\v3.oneCell'=true/\
      W3.cell? ⟨Bw,0,none⟩=some (.int .i64 kw)/\W3.cell? ⟨Bd,0,none⟩=some (.int .i64 dk)/\St.Row wr.heap.size v3 (p++[d]) W3/\Below wr.heap.size wr W3:=by
 have bd:Below wr.heap.size wr wr.drew:=(Below.refl _ wr).drew
 have sz:wr.drew.heap.size=wr.heap.size:=rfl
 have ba:Below wr.heap.size wr (wr.drew.alloc (.cells #[.int .i64 d] 3)):=bd.trans ((Below.refl _ wr.drew).alloc (Nat.le_refl _) _)
 have sza:(wr.drew.alloc (.cells #[.int .i64 d] 3)).heap.size=wr.heap.size+1:=by rw[World.size_alloc,sz]
 have hn:(wr.drew.alloc (.cells #[.int .i64 d] 3)).cell? ⟨wr.heap.size,0,none⟩=some (.int .i64 d):=by
  have:=World.alloc_heap_new wr.drew (.cells #[.int .i64 d] 3)
  rw[sz]at this
  simp only[World.cell?,this]
  rfl
 refine(hCl a p c hap hl m _ (rs.below ba)).mono fun e W2 ⟨v',he,hr,hb⟩=>?_
 rw[sza]at hr hb
 have lw:=St.ek rw'
 have ld:=St.ek rd
 have cw2:W2.cell? ⟨Bw,0,none⟩=some (.int .i64 kw):=(hb.cell (p:=⟨Bw,0,none⟩) (Nat.lt_succ_of_lt lw)).trans ((ba.cell (p:=⟨Bw,0,none⟩) lw).trans rw')
 have cd2:W2.cell? ⟨Bd,0,none⟩=some (.int .i64 dk):=(hb.cell (p:=⟨Bd,0,none⟩) (Nat.lt_succ_of_lt ld)).trans ((ba.cell (p:=⟨Bd,0,none⟩) ld).trans rd)
 have hn2:=(hb.cell (p:=⟨wr.heap.size,0,none⟩) (Nat.lt_succ_self _)).trans hn
 have hsz:=hb.size
 rw[sza]at hsz
 obtain⟨v3,W3,hrun,ho3,hrow,hb3⟩:=St.sM hr wr.heap.size d hn2 hsz hl
 exact⟨v',he,cw2,cd2,v3,W3,hrun,ho3,(hb3.cell (p:=⟨Bw,0,none⟩) (Nat.lt_succ_of_lt lw)).trans cw2,(hb3.cell (p:=⟨Bd,0,none⟩) (Nat.lt_succ_of_lt ld)).trans cd2,hrow.mono (Nat.le_succ _),ba.trans ((hb.mono (Nat.le_succ _)).trans (hb3.mono (Nat.le_succ _)))⟩
def St.mark(D:Nat):Deferred:={target:=.collected D,args:=#[]}
theorem St.leaves{B:Nat}{F:Fence}{n:Nat}{P:Program}{fn:Func}{tmps:Array Value}{R:Ending->World->Prop}(I:World->Prop)(hI:∀W D,I W->(∃x,W.heap[D]?=some (.deferred x))->B<=D->I (W.putObj D (.deferred none)))
  (hR:∀W,I W->LeavesIn F n P fn tmps R [] .returning W):∀(Ds:List Nat) (W:World),Ds.Nodup->(∀D∈Ds,B<=D/\W.heap[D]?=some (.deferred (some [])))->I W->LeavesInM F n P fn tmps R (Ds.map St.mark) .returning W:=by
 intro Ds
 induction Ds with
 |nil=>exact fun W _ _ h=>hR W h
 |cons D Ds ih=>
  intro W hn hD hi
  have h0:=hD D (by simp)
  refine⟨by simp,.inl ⟨D,W.putObj D (.deferred none),rfl,run_takeDeferred h0.2,ih _ (List.nodup_cons.1 hn).2 (fun D' h'=>?_) (hI _ _ hi ⟨_,h0.2⟩ h0.1)⟩⟩
  have hne:D'≠D:=fun e=>(List.nodup_cons.1 hn).1 (e▸h')
  exact⟨(hD D' (by simp[h'])).1,(World.putObj_heap_other hne).trans (hD D' (by simp[h'])).2⟩
attribute [local go_sem] Oper.semAt_some
attribute [-go_sem] Builtin.append_
def St.Own(Bp Bw Bd:Nat)(a:Option Addr)(b:Nat):Prop:=b=Bp\/b=Bw\/b=Bd\/∃g,a=some ⟨g,0,none⟩/\b=g
def St.Kg(F:Fence)(n k:Nat):Prop:=∀(lo dk:Int) (p:List Int) (a:Option Addr) (c Bp Bw Bd:Nat) (w:World),
 (a=none↔p=[])->p.length+k<=60->0<=lo->0<=dk->dk<=60->lo<=dk+1->(p=[]->lo=0)->(p≠[]->p.getD (p.length-1) 0=lo-1)->
 w.cell? ⟨Bp,0,none⟩=some (.slice a p.length c)->w.cell? ⟨Bw,0,none⟩=some (.int .i64 ((p.length+k:Nat):Int))->w.cell? ⟨Bd,0,none⟩=some (.int .i64 dk)->St.ShA a p w->
 Fe F n Tryz.prog 197 #[.pointer (some ⟨Bp,0,none⟩),.pointer (some ⟨Bw,0,none⟩),.pointer (some ⟨Bd,0,none⟩)] (Prod.fst (β:=List Int)) (fun B x W=>St.Row B x.1 x.2 W) Prod.snd (St.gm dk k lo p) (St.Own Bp Bw Bd a) w
structure St.Inv(J:List (Value×List Int)->(Nat->Prop)->World->Prop)(B0 l:Nat)(C0:Nat->Prop)(Bp Bw Bd:Nat)(a:Option Addr)(p:List Int)(c:Nat)(kw dk:Int)(Ds:List Nat)(xs:List (Value×List Int))(C:Nat->Prop)(W:World):Prop where
 j:J xs C W
 old:∀b,C b->b<W.heap.size/\(C0 b\/B0<b)
 size:B0<W.heap.size
 marks:∀D∈Ds,B0<D/\¬C D/\W.heap[D]?=some (.deferred (some []))
 cp:W.cell? ⟨Bp,0,none⟩=some (.slice a p.length c)
 cw:W.cell? ⟨Bw,0,none⟩=some (.int .i64 kw)
 cd:W.cell? ⟨Bd,0,none⟩=some (.int .i64 dk)
 cy:W.cell? ⟨B0,0,none⟩=some (.func (.yield l) #[] #[])
 sh:St.ShA a p W
theorem St.Inv.own{J:List (Value×List Int)->(Nat->Prop)->World->Prop}{B0 l:Nat}{C0:Nat->Prop}{Bp Bw Bd:Nat}{a:Option Addr}{p:List Int}{c:Nat}{kw dk:Int}{Ds:List Nat}{xs:List (Value×List Int)}{C:Nat->Prop}
  (hJ:∀C,OwnFrom B0 (fun pre X=>J pre C X)) {W W':World} {row:Option Nat} (h:St.Inv J B0 l C0 Bp Bw Bd a p c kw dk Ds xs C W) (hg:W.grownBy W' row) (hr:∀r,row=some r->B0<r/\r∉Ds/\∃o:Obj,W.heap[r]?=some o/\o.isCells=false):
  St.Inv J B0 l C0 Bp Bw Bd a p c kw dk Ds xs C W':=by
 have hr':∀r,row=some r->∃o:Obj,W.heap[r]?=some o/\o.isCells=false:=fun r e=>(hr r e).2.2
 exact⟨hJ C xs W W' row h.j hg (fun r e=>⟨Nat.le_of_lt (hr r e).1,(hr r e).2.2⟩),fun b hb=>⟨Nat.lt_of_lt_of_le (h.old b hb).1 hg.size,(h.old b hb).2⟩,Nat.lt_of_lt_of_le h.size hg.size,
  fun D hD=>⟨(h.marks D hD).1,(h.marks D hD).2.1,(hg.block D (Array.getElem?_eq_some_iff.1 (h.marks D hD).2.2).1 (fun e=>(hr D e.symm).2.1 hD)).trans (h.marks D hD).2.2⟩,
  cell_kept h.cp hg hr',cell_kept h.cw hg hr',cell_kept h.cd hg hr',cell_kept h.cy hg hr',h.sh.dF fun g j v _ hc=>cell_kept hc hg hr'⟩
theorem St.Inv.turn{J:List (Value×List Int)->(Nat->Prop)->World->Prop}{B0 l:Nat}{C0:Nat->Prop}{Bp Bw Bd:Nat}{a:Option Addr}{p:List Int}{c:Nat}{kw dk:Int}{Ds:List Nat}{xs ys:List (Value×List Int)}{C C':Nat->Prop}{W W':World}
  (hC0:∀b,C0 b->b<B0/\¬St.Own Bp Bw Bd a b) (hlt:∀b,St.Own Bp Bw Bd a b->b<B0) (h:St.Inv J B0 l C0 Bp Bw Bd a p c kw dk Ds xs C W) (ht:TurnsC B0 C W W') (hj:J ys C' W') (hc:∀k,C' k->k<W'.heap.size/\(C k\/W.heap.size<=k)):
  St.Inv J B0 l C0 Bp Bw Bd a p c kw dk Ds ys C' W':=by
 have hs:=h.size
 have hz:=ht.size
 have own:∀b,St.Own Bp Bw Bd a b->¬C b:=fun b hb hC=>by
  rcases(h.old b hC).2 with h1|h1
  ·exact(hC0 b h1).2 hb
  ·exact Nat.lt_asymm h1 (hlt b hb)
 have cell:∀{b o:Nat} {v:Value},¬C b->W.cell? ⟨b,o,none⟩=some v->W'.cell? ⟨b,o,none⟩=some v:=fun{b o v} hb hv=>by
  obtain⟨ob,ho,hcl⟩:=cells_of_cell hv
  exact(World.cell?_of_block ((ht.same b ob ho hb (.inl hcl)).trans ho.symm)).trans hv
 have n0:¬C B0:=fun hC=>by
  rcases(h.old B0 hC).2 with h1|h1
  ·exact Nat.lt_irrefl _ (hC0 B0 h1).1
  ·exact Nat.lt_irrefl _ h1
 refine⟨hj,fun b hb=>⟨(hc b hb).1,?_⟩,by omega,fun D hD=>⟨(h.marks D hD).1,fun hC=>?_,ht.same D _ (h.marks D hD).2.2 (h.marks D hD).2.1 (.inr (Nat.le_of_lt (h.marks D hD).1))⟩,cell (own _ (.inl rfl)) h.cp,cell (own _ (.inr (.inl rfl))) h.cw,cell (own _ (.inr (.inr (.inl rfl)))) h.cd,cell n0 h.cy,
  h.sh.dF fun g j v e hv=>cell (own _ (.inr (.inr (.inr ⟨g,e,rfl⟩)))) hv⟩
 ·rcases(hc b hb).2 with h1|h1
  ·exact(h.old b h1).2
  ·exact .inr (by omega)
 ·rcases(hc D hC).2 with h1|h1
  ·exact(h.marks D hD).2.1 h1
  ·have:=(Array.getElem?_eq_some_iff.1 (h.marks D hD).2.2).1
   omega
theorem St.jh(W:World)(v:Value)(t:TypeId):(W.alloc (.cells #[v] t)).cell? ⟨W.heap.size,0,none⟩=some v:=by
 have:=World.alloc_heap_new W (.cells #[v] t)
 simp only[World.cell?,this]
 rfl
theorem St.boxes(W:World)(u v x:Value)(r s t:TypeId):(((W.alloc (.cells #[u] r)).alloc (.cells #[v] s)).alloc (.cells #[x] t)).cell? ⟨W.heap.size,0,none⟩=some u/\
  (((W.alloc (.cells #[u] r)).alloc (.cells #[v] s)).alloc (.cells #[x] t)).cell? ⟨W.heap.size+1,0,none⟩=some v/\(((W.alloc (.cells #[u] r)).alloc (.cells #[v] s)).alloc (.cells #[x] t)).cell? ⟨W.heap.size+2,0,none⟩=some x:=by
 have h2:=St.jh (W.alloc (.cells #[u] r)) v s
 have h3:=St.jh ((W.alloc (.cells #[u] r)).alloc (.cells #[v] s)) x t
 rw[World.size_alloc]at h2 h3
 rw[World.size_alloc]at h3
 exact⟨St.eJ (St.eJ (St.jh W u r) _) _,St.eJ h2 _,h3⟩
theorem St.Row.sha{base:Nat}{v:Value}{p:List Int}{W:World}(h:St.Row base v p W)(hp:p≠[]):∃g cap,v=.slice (some ⟨g,0,none⟩) p.length cap/\base<=g/\g<W.heap.size/\St.ShA (some ⟨g,0,none⟩) p W:=by
 rcases h.1.2 with⟨e,_⟩|⟨g,cap,cur,e,hb,hg,_,_,_,ht⟩
 ·exact absurd (h.2.1 e) hp
 ·refine⟨g,cap,e,hb,(Array.getElem?_eq_some_iff.1 hg).1,fun j hj=>⟨g,rfl,?_⟩⟩
  have h1:(cur.toList.take (p.length*1))[j]?=some (.int .i64 (p.getD j 0)):=by
   rw[ht,List.getElem?_map,List.getElem?_eq_getElem hj,List.getD_eq_getElem?_getD,List.getElem?_eq_getElem hj];rfl
  rw[List.getElem?_take,if_pos (by omega),Array.getElem?_toList]at h1
  simp only[World.cell?,hg]
  exact h1
def St.part(dk:Int)(k:Nat)(lo:Int)(p:List Int)(j:Nat):List (List Int):=((List.range j).map fun(i:Nat)=>St.gm dk k (lo+(i:Int)+1) (p++[lo+(i:Int)])).flatten
theorem St.qT(dk:Int)(k:Nat)(lo:Int)(p:List Int)(j:Nat):St.part dk k lo p (j+1)=St.part dk k lo p j++St.gm dk k (lo+(j:Int)+1) (p++[lo+(j:Int)]):=by
 simp[St.part,List.range_succ]
theorem St.KR(dk:Int)(k:Nat)(lo:Int)(p:List Int)(j m:Nat):(St.part dk k lo p j).length<=(St.part dk k lo p (j+m)).length:=by
 induction m with
 |zero=>exact Nat.le_refl _
 |succ m ih=>rw[<-Nat.add_assoc,St.qT,List.length_append];omega
theorem St.sy(dk:Int)(k:Nat)(lo:Int)(p:List Int):St.gm dk (k+1) lo p=St.part dk k lo p (dk-(k+1:Nat)-lo+1).toNat:=rfl
set_option maxRecDepth 100000 in
set_option maxHeartbeats 0 in
theorem St.Eh(F:Fence)(hd:F.depth=none)(n:Nat)(h32:F.fn 197)(h33:F.fn 198)(h24:F.fn 142)(hro:F.round=none)(hCl:St.Cl F)(k:Nat)(ih:∀n,St.Kg F n k)(lo dk:Int)(p:List Int)(a:Option Addr)(c Bp Bw Bd l:Nat)
  (J:List (Value×List Int)->(Nat->Prop)->World->Prop) (B0:Nat) (C0:Nat->Prop) (hJ:∀C,OwnFrom B0 (fun pre X=>J pre C X)) (hC0:∀b,C0 b->b<B0/\¬St.Own Bp Bw Bd a b) (hlt:∀b,St.Own Bp Bw Bd a b->b<B0)
  (hap:a=none↔p=[]) (hpb:p.length+k+1<=60) (hlo:0<=lo) (hdk0:0<=dk) (hdk:dk<=60)
  (hY:∀pre C x W1,J pre C W1->(∀k,C k->k<W1.heap.size)->B0<=W1.heap.size->St.Row B0 x.1 x.2 W1->pre.length<(St.gm dk (k+1) lo p).length->YieldAt F (n-1) Tryz.prog l #[x.1] W1 fun e W'=>
   e=.returned (.bool true)/\∃C',J (pre++[x]) C' W'/\(∀k,C' k->k<W'.heap.size/\(C k\/W1.heap.size<=k))/\TurnsC B0 C W1 W')
  (t0 t5 t7 t8 t9 t10 t11 t12 t13 t14 t15 t16 t17 t18 t19 t20 t21 t22 t23 t24 t25 t26 t27 t28 t29 t30 t31 t32 t33 t34 t35 t36 t37 t38 t39 t40 t41 t42 t43 t44 t45 t46 t47 t48 t49:Value) (wr:World) (h0:St.Inv J B0 l C0 Bp Bw Bd a p c ((p.length+k+1:Nat):Int) dk [] [] C0 wr) (Q:Exit->Act->World->Prop)
  (hQ:∀a' w',(∃xs C Ds,a'.defers=Ds.map St.mark/\Ds.Nodup/\St.Inv J B0 l C0 Bp Bw Bd a p c ((p.length+k+1:Nat):Int) dk Ds xs C w'/\xs.map Prod.snd=St.gm dk (k+1) lo p)->Q .normal a' w'):
  (St.sel [true,true,true,true,true,true] St.body).wpIn F n Tryz.prog (Exit.inBlock 0 Q)
   {tmps:=#[t0,.pointer (some ⟨Bp,0,none⟩),.pointer (some ⟨Bw,0,none⟩),.pointer (some ⟨Bd,0,none⟩),.pointer (some ⟨B0,0,none⟩),t5,.int .i64 lo,t7,t8,t9,t10,t11,t12,t13,t14,t15,t16,t17,t18,t19,t20,t21,t22,t23,t24,t25,t26,t27,t28,t29,t30,t31,t32,t33,t34,t35,t36,t37,t38,t39,t40,t41,t42,t43,t44,t45,t46,t47,t48,t49],defers:=[]} wr:=by
 have hdd:∀k:Nat,(F.depth.isSome=true->1<=k):=fun k h=>by rw[hd]at h;cases h
 obtain⟨cc,hcc⟩:∃cc,cc=St.sel [true,true,true,true,true,true] St.body:=⟨_,rfl⟩
 rw[<-hcc]
 simp only[St.sel,St.body,Tryz.f197,Option.getD_some]at hcc
 rw[hcc]
 clear hcc cc
 dsimp only
 refine wpIn_loop (fun a' w'=>∃(j:Nat) (xs:List (Value×List Int)) (C:Nat->Prop) (Ds:List Nat) (u7 u27 u28 u29 u30 u31 u32 u33 u34 u35 u36 u37 u38 u39 u40 u41 u42 u43 u44 u45 u46 u47 u48 u49:Value),a'={tmps:=#[t0,.pointer (some ⟨Bp,0,none⟩),.pointer (some ⟨Bw,0,none⟩),.pointer (some ⟨Bd,0,none⟩),.pointer (some ⟨B0,0,none⟩),t5,.int .i64 (lo+(j:Int)),u7,t8,t9,t10,t11,t12,t13,t14,t15,t16,t17,t18,t19,t20,t21,t22,t23,t24,t25,t26,u27,u28,u29,u30,u31,u32,u33,u34,u35,u36,u37,u38,u39,u40,u41,u42,u43,u44,u45,u46,u47,u48,u49],defers:=Ds.map St.mark}/\Ds.Nodup/\
  St.Inv J B0 l C0 Bp Bw Bd a p c ((p.length+k+1:Nat):Int) dk Ds xs C w'/\j<=(dk-(k+1:Nat)-lo+1).toNat/\xs.map Prod.snd=St.part dk k lo p j)
  (fun a' _=>(dk+1-intOf (a'.tmps.getD 6 undef)).toNat) ?start ?round
 case start=>
  refine⟨0,[],C0,[],t7,t27,t28,t29,t30,t31,t32,t33,t34,t35,t36,t37,t38,t39,t40,t41,t42,t43,t44,t45,t46,t47,t48,t49,?_,List.nodup_nil,h0,Nat.zero_le _,rfl⟩
  simp
 case round=>
  rintro _ wr ⟨j,xs,C,Ds,u7,u27,u28,u29,u30,u31,u32,u33,u34,u35,u36,u37,u38,u39,u40,u41,u42,u43,u44,u45,u46,u47,u48,u49,rfl,hnd,hI,hj,hxs⟩
  dsimp only
  have rp:=hI.cp
  have rw':=hI.cw
  have rd:=hI.cd
  have ry:=hI.cy
  by_cases hend:lo+(j:Int)<=dk-(k+1)
  ·gi_wp2
   have hl60:p.length<=60:=by omega
   refine wpIn_mono (St.FH F hd n h33 h24 hro Bp Bw Bd a p.length c ((p.length+k+1:Nat):Int) dk (lo+(j:Int)) (p++[lo+(j:Int)]) wr rp rw' rd (St.NK hap hl60 hCl hI.sh rw' rd) (St.NJ hap hl60 hCl hI.sh rw' rd) _ _ _ _ _ _ _ _ _ _ _ _ _ _ _ _ _ _ _ _ _ _ _ _ _ _ _ _ _ _ _ _ _ _ _ _ _ _ _ _ _ _ _ _ _ _ (Ds.map St.mark)) ?_
   rintro _ _ _ ⟨rfl,u37,u38,u39,u40,u41,u42,u43,v3,W3,hrow,hbel,rfl,rfl⟩
   dsimp only
   obtain⟨w,hw⟩:∃w,w=((W3.alloc (.cells #[v3] 151)).alloc (.cells #[.int .i64 dk] 3)).alloc (.cells #[.int .i64 ((p.length+k+1:Nat):Int)] 3):=⟨_,rfl⟩
   rw[<-hw]
   gi_wp2
   obtain⟨g,cap,rfl,hg0,hg1,hsh⟩:=hrow.sha (by simp)
   have sz:w.heap.size=W3.heap.size+3:=by rw[hw];simp
   have bw:Below W3.heap.size W3 w:=by rw[hw];exact(((Below.refl _ W3).alloc (Nat.le_refl _) _).alloc (by simp) _).alloc (by simp;omega) _
   have bwr:Below wr.heap.size wr w:=hbel.trans (bw.mono hbel.size)
   obtain⟨n1,n2,n3⟩:=St.boxes W3 (.slice (some ⟨g,0,none⟩) (p++[lo+(j:Int)]).length cap) (.int .i64 dk) (.int .i64 ((p.length+k+1:Nat):Int)) 151 3 3
   rw[<-hw]at n1 n2 n3
   have hIw:St.Inv J B0 l C0 Bp Bw Bd a p c ((p.length+k+1:Nat):Int) dk Ds xs C w:=hI.own hJ (St.jU bwr) (fun r e=>by cases e)
   refine mu (α:=Value×List Int) (β:=List Int) (enc:=Prod.fst) (Seen:=fun B x W=>St.Row B x.1 x.2 W) (val:=Prod.snd) (out:=St.gm dk k (lo+(j:Int)+1) (p++[lo+(j:Int)])) (w0:=w) (D:=St.Own W3.heap.size (W3.heap.size+2) (W3.heap.size+1) (some ⟨g,0,none⟩))
    hro (fun h=>absurd h (by simp[hd])) (gf:=197) rfl h32 (fun _ _=>rfl)
    (ih (n-1) (lo+(j:Int)+1) dk (p++[lo+(j:Int)]) (some ⟨g,0,none⟩) cap W3.heap.size (W3.heap.size+2) (W3.heap.size+1) w (by simp) (by simp;omega) (by omega) hdk0 hdk (by omega) (by simp) (fun _=>by simp) n1 (by simpa[Nat.add_right_comm]using n3) n2 (hsh.below bw))
    (Below.refl _ w) ?hseen
    (fun ys C X=>St.Inv J B0 l C0 Bp Bw Bd a p c ((p.length+k+1:Nat):Int) dk Ds (xs++ys) C X) (fun C ys X Y row h hg hr=>?own) C ?hc (by rw[List.append_nil];exact hIw) (fun x=>{tmps:=#[t0,.pointer (some ⟨Bp,0,none⟩),.pointer (some ⟨Bw,0,none⟩),.pointer (some ⟨Bd,0,none⟩),.pointer (some ⟨B0,0,none⟩),t5,.int .i64 (lo+(j:Int)),x.1,t8,t9,t10,t11,t12,t13,t14,t15,t16,t17,t18,t19,t20,t21,t22,t23,t24,t25,t26,.int .i64 (lo+(j:Int)),.int .i64 dk,.int .i64 ((p.length:Int)+(k:Int)+1),.slice a p.length c,.int .i64 (p.length:Int),.int .i64 ((p.length:Int)+(k:Int)+1-(p.length:Int)),.int .i64 (dk-((p.length:Int)+(k:Int)+1-(p.length:Int))),.bool true,u35,u36,u37,u38,u39,u40,u41,u42,u43,.func (.func 197) #[] #[.pointer (some ⟨W3.heap.size,0,none⟩),.pointer (some ⟨W3.heap.size+2,0,none⟩),.pointer (some ⟨W3.heap.size+1,0,none⟩)],x.1,u46,u47,u48,u49],defers:=[]}) ?assign ?body ?done
   case hc=>
    intro b hb
    have h1:=(hI.old b hb).1
    have h2:=hbel.size
    refine⟨by omega,?_⟩
    rintro(h|h|h|⟨g',e,h⟩)
    ·omega
    ·omega
    ·omega
    ·cases e;omega
   case own=>
    refine h.own hJ hg fun r e=>⟨?_,fun hm=>?_,(hr r e).2⟩
    ·have h1:=hIw.size
     have h2:=(hr r e).1
     omega
    ·have h1:=(Array.getElem?_eq_some_iff.1 (hIw.marks r hm).2.2).1
     have h2:=(hr r e).1
     omega
   case hseen=>
    intro B x X b o o' hs _ ho hc
    exact⟨ownsRow_putObj hs.1 o' ho hc,hs.2⟩
   case assign=>
    intro l' x X K hK
    simp only[List.zip_toArray,List.zip_cons_cons,List.zip_nil_right,List.foldl_toArray',List.foldl_cons,List.foldl_nil,List.setIfInBounds_toArray,List.set_cons_succ,List.set_cons_zero]
    gi_wp2
    exact hK
   case body=>
    intro l' ys C1 x X hIx hC1 hsz hseen hlen
    dsimp only
    have ry1:=hIx.cy
    have hs1:=hIx.size
    obtain⟨fn,tm,asl',bo,hyr,hR⟩:=hY (xs++ys) C1 x X hIx.j (fun k hk=>(hIx.old k hk).1) (Nat.le_of_lt hs1) (hseen.mono (by have:=hI.size;have:=bwr.size;omega)) (by
     have h1:xs.length=(St.part dk k lo p j).length:=by rw[<-hxs,List.length_map]
     have h2:=St.KR dk k lo p (j+1) ((dk-(k+1:Nat)-lo+1).toNat-(j+1))
     rw[show j+1+((dk-(k+1:Nat)-lo+1).toNat-(j+1))=(dk-(k+1:Nat)-lo+1).toNat by omega,<-St.sy,St.qT,List.length_append]at h2
     rw[List.length_append,h1]
     omega)
    replace hR:=St.FF hd (m':=n-1-1-1) hR
    gi_wp2
    refine RoundIn.mono (F:=F.inRound l') hR ?_
    clear hR
    rintro e X1 ⟨rfl,C2,hj2,hc2,ht2⟩
    gi_wp2
    refine⟨C2,?_,hc2,ht2.size,fun b o hb hnc ho=>ht2.same b o hb hnc (ho.imp id fun h=>?_)⟩
    ·dsimp only
     rw[<-List.append_assoc]
     exact hIx.turn hC0 hlt ht2 hj2 hc2
    ·have h1:=hIw.size
     omega
   case done=>
    rintro D ys C1 X hD hnD hys hI1 hDx
    dsimp only
    gi_wp2
    rw[show lo+(j:Int)+1=lo+((j+1:Nat):Int) by omega]
    refine⟨⟨j+1,xs++ys,C1,D::Ds,_,_,_,_,_,_,_,_,_,_,_,_,_,_,_,_,_,_,_,_,_,_,_,_,rfl,?_,?_,by omega,?_⟩,?_⟩
    ·refine List.nodup_cons.2 ⟨fun hm=>?_,hnd⟩
     have h1:=(Array.getElem?_eq_some_iff.1 (hIw.marks D hm).2.2).1
     omega
    ·have h1:=hIw.size
     exact⟨hI1.j,hI1.old,hI1.size,fun E hE=>by
      rcases List.mem_cons.1 hE with rfl|hE
      ·exact⟨by omega,hnD,hDx⟩
      ·exact hI1.marks E hE,hI1.cp,by simpa using hI1.cw,hI1.cd,hI1.cy,hI1.sh⟩
    ·rw[List.map_append,hxs,hys,St.qT]
    ·simp[intOf]
     omega
  ·gi_wp2
   refine⟨xs,C,Ds,rfl,hnd,by simpa using hI,?_⟩
   rw[hxs,St.sy]
   congr 1
   omega
attribute [local go_sem] Oper.semAt_some
def Ch.Kp(n₀:Nat)(A B:World):Prop:=Below n₀ A B
theorem Ch.IF(F:Fence)(h49:F.fn 49)(hro:F.round=none)(n:Nat)(a:Option Addr)(len cap:Nat)(k:Int)(hk:1<=k)(w:World):
  CallsIn F n Tryz.prog 49 #[.slice a len cap,.int .i64 k] w fun e w'=>e=.returned (.func (.func 97) #[] #[.pointer (some ⟨w.heap.size,0,none⟩),.pointer (some ⟨w.heap.size+1,0,none⟩)])/\w'=(w.alloc (.cells #[.slice a len cap] 99)).alloc (.cells #[.int .i64 k] 3):=by
 refine callsIn_of_wp Tryz.func49 rfl h49 ?_ hro
 simp only[Tryz.ntmps49,List.size_toArray,List.length_cons,List.length_nil,Nat.reduceAdd,Nat.reduceSub,Array.replicate_succ,Array.replicate_zero,List.push_toArray,List.append_toArray,List.nil_append,List.cons_append]
 have hk1:¬k<1:=by omega
 gi_wp2
 go_ret
 exact⟨rfl,rfl⟩
set_option maxHeartbeats 4000000 in
theorem Ch.Ob(F:Fence)(n:Nat)(h97:F.fn 97)(hro:F.round=none)(hn:1<=n)(l Bs Bn os on n₀ b off len cap:Nat)(k:Int)(hl:1<=len)(hlk:(len:Int)<=k)(hk:k<=1000)(hcap:len<=cap)(hBs:Bs<n₀)(hBn:Bn<n₀)(J:Nat->World->Prop)(hJd:∀W,J 0 W->J 0 W.drew)
  (hY:∀W,J 0 W->YieldAt F (n-1) Tryz.prog l #[.slice (some ⟨b,off,none⟩) len len] W fun e W'=>e=.returned (.bool true)/\J 1 W'/\Ch.Kp n₀ W W')
  (W:World) (hs:W.cell? ⟨Bs,os,none⟩=some (.slice (some ⟨b,off,none⟩) len cap)) (hnn:W.cell? ⟨Bn,on,none⟩=some (.int .i64 k)) (h0:J 0 W):
  CallsIn F n Tryz.prog 97 #[.func (.yield l) #[] #[],.pointer (some ⟨Bs,os,none⟩),.pointer (some ⟨Bn,on,none⟩)] W fun e W'=>(∃v,e=.returned v)/\J 1 W':=by
 refine callsIn_of_wp Tryz.func97 rfl h97 ?_ hro
 simp only[Tryz.ntmps97,List.size_toArray,List.length_cons,List.length_nil,Nat.reduceAdd,Nat.reduceSub,Array.replicate_succ,Array.replicate_zero,List.push_toArray,List.append_toArray,List.nil_append,List.cons_append]
 gi_wp2
 gi_loopw [4] (fun i wr=>∃r:Nat,r<=1/\i=.int .i64 ((r:Int)*k)/\J r wr/\Ch.Kp n₀ W wr)
  (fun i _=>(k-intOf i).toNat)
 case atStart=>exact⟨0,by omega,by simp,h0,Below.refl _ _⟩
 case round=>
  obtain⟨r,hr,rfl,hJs,hnx⟩:=hrel
  have hs1:wr.cell? ⟨Bs,os,none⟩=some (.slice (some ⟨b,off,none⟩) len cap):=(hnx.cell (p:=⟨Bs,os,none⟩) hBs).trans hs
  have hn1:wr.cell? ⟨Bn,on,none⟩=some (.int .i64 k):=(hnx.cell (p:=⟨Bn,on,none⟩) hBn).trans hnn
  cases r with
  |zero=>
   have hz0:((0:Nat):Int)*k=0:=by simp
   rw[hz0]
   have hpos:(0:Int)<(len:Int):=by omega
   obtain⟨fn,tmps,assign,body,hy,hR⟩:=hY wr.drew (hJd wr hJs)
   have hmin:(if(len:Int)<k then(len:Int)else k)=(len:Int):=by split<;>omega
   have hmx:Tryz.prog.follows .mixedOrders=true:=by kernel_rfl
   have hs2:wr.drew.cell? ⟨Bs,os,none⟩=some (.slice (some ⟨b,off,none⟩) len cap):=by simpa using hs1
   have hn2:wr.drew.cell? ⟨Bn,on,none⟩=some (.int .i64 k):=by simpa using hn1
   gi_wp2
   gi_region
   all_goals gi_wp2
   all_goals (
    refine hR.mono ?_
    rintro e W3 ⟨rfl,hJ3,hk3⟩
    have hs3:W3.cell? ⟨Bs,os,none⟩=some (.slice (some ⟨b,off,none⟩) len cap):=(hk3.cell (p:=⟨Bs,os,none⟩) hBs).trans hs2
    have hn3:W3.cell? ⟨Bn,on,none⟩=some (.int .i64 k):=(hk3.cell (p:=⟨Bn,on,none⟩) hBn).trans hn2
    gi_wp2
    go_roundw
    case rel=>exact⟨1,by omega,by simp,hJ3,(hnx.trans (Below.refl _ wr).drew).trans hk3⟩
    case measure=>simp[intOf];omega)
  |succ r=>
   have hr0:r=0:=by omega
   subst hr0
   have hkk:((0+1:Nat):Int)*k=k:=by omega
   rw[hkk]
   have hnl:¬k<(len:Int):=by omega
   gi_wp2
   go_end0
   exact⟨⟨_,rfl⟩,hJs⟩
attribute [local go_sem] Oper.semAt_some
attribute [-go_sem] Builtin.append_
theorem Ch.Oi:(Tryz.prog.info? 99).map (fun i=>(i.zero,i.size,i.bytes))=some (some (.slice none 0 0),1,24):=by kernel_rfl
theorem Ch.app1{base:Nat}{W:World}(a:Option Addr)(len cap:Nat)(hbase:base<=W.heap.size):
  ∃v3 W3,(Builtin.append_ #[59,59] 59 #[.slice none 0 0,.slice (some ⟨W.heap.size,0,none⟩) 1 1]).run Tryz.prog (W.alloc (.cells #[.slice a len cap] 99))=.ok v3 W3/\v3.oneCell'=true/\W3.ownsRow base 99 1 v3 1 [.slice a len cap]/\(W.alloc (.cells #[.slice a len cap] 99)).grownBy W3 none:=by
 obtain⟨i0,hi,hz0,hz1,hz2⟩:=info_parts Ch.Oi
 obtain⟨v3,W3,hrun,r1,r2,r3⟩:=run_append_own (P:=Tryz.prog) (W.alloc (.cells #[.slice a len cap] 99)) base 59 59 99 i0 (.slice none 0 0) 1 24 Tryz.underlying59 hi hz0 hz1 hz2 rfl (by decide) (.slice none 0 0) 0 [] (World.ownsRow_nil _ _ _ _) ⟨W.heap.size,0,none⟩ 1 1 [.slice a len cap] rfl
  (fun j u hj=>by
   match j,hj with
   |0,hj=>injection hj with hj;subst hj;exact St.jh W _ _) (fun u hu=>by simp at hu;subst hu;rfl) (by simp only[maxLen];omega) (by omega) (by simp;omega)
 refine⟨v3,W3,hrun,?_,by simpa using r1,r2⟩
 rcases r1.2 with⟨e,_⟩|⟨g,cap,cur,e,_⟩<;>subst e<;>rfl
theorem Ch.gX{W W':World}{base k:Nat}{v:Value}{xs:List Value}(h:W.ownsRow base 99 1 v k xs)(hk:∀b:Nat,(∃cur,W.heap[b]?=some (Obj.cells cur 99 (0,0)))->W'.heap[b]?=W.heap[b]?):W'.ownsRow base 99 1 v k xs:=by
 obtain⟨h1,h2⟩:=h
 refine⟨h1,h2.imp id ?_⟩
 rintro⟨g,cap,cur,e,hg,hh,hr⟩
 exact⟨g,cap,cur,e,hg,(hk g ⟨cur,hh⟩).trans hh,hr⟩
theorem Ch.rn{m:Nat}{w W:World}{l:Nat}(o:Obj)(h:Below m w W)(hl:m<=l):Below m w (W.putObj l o):=
 h.trans ⟨by simp[World.putObj],by simp[World.putObj],by simp[World.putObj],by simp[World.putObj],fun b hb=>World.putObj_heap_other (by omega)⟩
def Ch.I(w:World)(sv:Value)(k:Nat)(W:World):Prop:=(∃v,Boxed W w.heap.size 59 v/\W.ownsRow w.heap.size 99 1 v k (List.replicate k sv)/\(k=0->v=.slice none 0 0))/\Below w.heap.size w W
theorem Ch.I.GF{w:World}{sv:Value}{k:Nat}{B:Nat}(hB:w.heap.size<B):Di B (Ch.I w sv k):=by
 rintro W l o o' ⟨⟨v,h1,h2,h3⟩,h4⟩ hl ho hc
 refine⟨⟨v,(World.putObj_heap_other (by omega)).trans h1,Ch.gX h2 fun b ⟨cur,hb⟩=>World.putObj_heap_other (fun e=>?_),h3⟩,Ch.rn _ h4 (by omega)⟩
 subst e
 rw[hb]at ho;cases ho;cases hc
set_option maxHeartbeats 4000000 in
theorem Ch.OH(F:Fence)(n:Nat)(hn:5<=n)(h96:F.fn 96)(h97:F.fn 97)(hro:F.round=none)(Bs Bn os on b off len cap:Nat)(k:Int)(hl:1<=len)(hlk:(len:Int)<=k)(hk:k<=1000)(hcap:len<=cap)(w:World)(hBs:Bs<w.heap.size)(hBn:Bn<w.heap.size)
  (hs:w.cell? ⟨Bs,os,none⟩=some (.slice (some ⟨b,off,none⟩) len cap)) (hnn:w.cell? ⟨Bn,on,none⟩=some (.int .i64 k)):
  CallsIn F n Tryz.prog 96 #[.slice none 0 0,.func (.func 97) #[] #[.pointer (some ⟨Bs,os,none⟩),.pointer (some ⟨Bn,on,none⟩)]] w fun e W'=>∃v,e=.returned v/\W'.ownsRow w.heap.size 99 1 v 1 [.slice (some ⟨b,off,none⟩) len len]/\Below w.heap.size w W':=by
 refine callsIn_of_wp_marks Tryz.func96 rfl h96 ?_ hro
 simp only[Tryz.ntmps96,List.size_toArray,List.length_cons,List.length_nil,Nat.reduceAdd,Nat.reduceSub,Array.replicate_succ,Array.replicate_zero,List.push_toArray,List.append_toArray,List.nil_append,List.cons_append]
 gi_wp2
 have hb1:Below w.heap.size w (w.alloc (.cells #[.slice none 0 0] 59)):=(Below.refl _ w).alloc (Nat.le_refl _) _
 have hI0:Ch.I w (.slice (some ⟨b,off,none⟩) len len) 0 (w.alloc (.cells #[.slice none 0 0] 59)):=⟨⟨_,Boxed.new w 59 _,World.ownsRow_nil _ _ _ _,fun _=>rfl⟩,hb1⟩
 obtain⟨A1,hA1⟩:∃A1,A1=w.alloc (.cells #[.slice none 0 0] 59):=⟨_,rfl⟩
 rw[<-hA1]at hI0 hb1 ⊢
 have sA:A1.heap.size=w.heap.size+1:=by rw[hA1];simp
 refine rH hro (by omega) (gf:=97) (lb:=#[.pointer (some ⟨Bs,os,none⟩),.pointer (some ⟨Bn,on,none⟩)]) rfl h97 (enters_of Tryz.func97 (by kernel_rfl) rfl) (encs:=fun _=>#[.slice (some ⟨b,off,none⟩) len len])
  (Kp:=Ch.Kp w.heap.size) (N:=1) (fun l J W hW hJd hY h0=>Ch.Ob F (n-1) h97 hro (by omega) l Bs Bn os on w.heap.size b off len cap k hl hlk hk hcap hBs hBn J (hJd 0) (fun X hX=>hY 0 X (by omega) hX) W ((hW.cell (p:=⟨Bs,os,none⟩) (show Bs<_ by omega)).trans ((hb1.cell (p:=⟨Bs,os,none⟩) hBs).trans hs)) ((hW.cell (p:=⟨Bn,on,none⟩) (show Bn<_ by omega)).trans ((hb1.cell (p:=⟨Bn,on,none⟩) hBn).trans hnn)) h0)
  (fun h k=>h.trans k) (fun X l o o' hl ho h1 h2=>Ch.rn _ (Below.refl _ _) (by omega)) (fun _=>rfl)
  (Ch.I w (.slice (some ⟨b,off,none⟩) len len)) (fun k a1 W=>a1={tmps:=#[.slice none 0 0,.func (.func 97) #[] #[.pointer (some ⟨Bs,os,none⟩),.pointer (some ⟨Bn,on,none⟩)],.pointer (some ⟨w.heap.size,0,none⟩),undef,.slice none 0 0,.slice (some ⟨b,off,none⟩) len len,.func (.func 97) #[] #[.pointer (some ⟨Bs,os,none⟩),.pointer (some ⟨Bn,on,none⟩)],.slice (some ⟨b,off,none⟩) len len,undef,undef,undef,undef,undef],defers:=[]}/\Ch.I w (.slice (some ⟨b,off,none⟩) len len) k W)
  (fun k=>Ch.I.GF (by omega)) (fun k a1 X l o o' h hl ho hc=>⟨h.1,Ch.I.GF (B:=A1.heap.size) (by omega) X l o o' h.2 hl ho hc⟩) (fun k X h=>?hid) (fun o1 o2=>?start) ?assign ?body ?done
 case hid=>
  obtain⟨⟨v,h1,h2,h3⟩,h4⟩:=h
  exact⟨⟨v,h1,Ch.gX h2 fun _ _=>rfl,h3⟩,h4.trans (Below.refl _ X).drew⟩
 case start=>
  obtain⟨⟨v,h1,h2,h3⟩,h4⟩:=hI0
  exact⟨⟨v,(h1.alloc o1).alloc o2,by rw[h3 rfl];exact World.ownsRow_nil _ _ _ _,h3⟩,h4.trans (((Below.refl A1.heap.size A1).alloc (Nat.le_refl _) o1).alloc (by simp) o2 |>.mono (by omega))⟩
 case assign=>
  rintro l p X hp hI
  simp only[List.zip_toArray,List.zip_cons_cons,List.zip_nil_right,List.foldl_toArray',List.foldl_cons,List.foldl_nil,List.setIfInBounds_toArray,List.set_cons_succ,List.set_cons_zero]
  gi_wp2
  exact⟨KeepsOthers.refl _,Below.refl _ _,trivial,hI⟩
 case body=>
  rintro l p a1 X hp ⟨rfl,⟨⟨v,h1,h2,h3⟩,h4⟩⟩
  have hp0:p=0:=by omega
  subst hp0
  obtain rfl:=h3 rfl
  have hw:=h4.size
  have c1:=h1.cell
  obtain⟨v3,W3,hrun,hone,hrow,hgr⟩:=Ch.app1 (base:=w.heap.size) (W:=X) (some ⟨b,off,none⟩) len len hw
  obtain⟨g3,cp3,rfl⟩:=ownsRow_succ hrow
  obtain⟨q1,q2,q3,q4,q5⟩:=Boxed.appended h1 (by decide) (World.ownsRow_nil X w.heap.size 99 1) hw (Nat.le_refl _) hrow hgr
  have c3:=q1.cell
  have f3:=q1.frozen
  gi_wp2
  exact⟨q5,⟨_,q2,q3,fun h=>by omega⟩,h4.trans q5⟩
 case done=>
  rintro D X hD ⟨⟨v,h1,h2,h3⟩,h4⟩ hm
  dsimp only
  have c1:=h1.cell
  obtain⟨g,cp,rfl⟩:=ownsRow_succ h2
  gi_wp2
  refine⟨by simp,.inl ⟨_,_,rfl,run_takeDeferred hm,_,results_tmp rfl _ _ _,_,rfl,?_,Ch.rn _ h4 (by omega)⟩⟩
  refine Ch.gX h2 fun b ⟨cur,hb⟩=>World.putObj_heap_other (fun e=>?_)
  subst e
  rw[hm]at hb;cases hb
theorem Ch.CU(F:Fence)(n:Nat)(hn:6<=n)(h48:F.fn 48)(h96:F.fn 96)(h97:F.fn 97)(hro:F.round=none)(Bs Bn os on b off len cap:Nat)(k:Int)(hl:1<=len)(hlk:(len:Int)<=k)(hk:k<=1000)(hcap:len<=cap)(w:World)(hBs:Bs<w.heap.size)(hBn:Bn<w.heap.size)
  (hs:w.cell? ⟨Bs,os,none⟩=some (.slice (some ⟨b,off,none⟩) len cap)) (hnn:w.cell? ⟨Bn,on,none⟩=some (.int .i64 k)):
  CallsIn F n Tryz.prog 48 #[.func (.func 97) #[] #[.pointer (some ⟨Bs,os,none⟩),.pointer (some ⟨Bn,on,none⟩)]] w fun e W'=>∃v,e=.returned v/\W'.ownsRow w.heap.size 99 1 v 1 [.slice (some ⟨b,off,none⟩) len len]/\Below w.heap.size w W':=by
 refine callsIn_of_wp Tryz.func48 rfl h48 ?_ hro
 simp only[Tryz.ntmps48,List.size_toArray,List.length_cons,List.length_nil,Nat.reduceAdd,Nat.reduceSub,Array.replicate_succ,Array.replicate_zero,List.push_toArray,List.append_toArray,List.nil_append,List.cons_append]
 have hn1:1<=n:=by omega
 gi_wp2_with (gi_at_call 96;refine(Ch.OH F (n-1) (by omega) h96 h97 hro Bs Bn os on b off len cap k hl hlk hk hcap w hBs hBn hs hnn).mono ?_;rintro e w' ⟨v,rfl,hr,hb⟩)
 go_ret
 exact⟨v,rfl,hr,hb⟩
end Go.Proofs
namespace Go
theorem CT{l:List Nat}{p q:Nat->Bool}(h:∀x∈l,q x=true->p x=true)(hx:∃x∈l,p x=true/\q x=false):l.countP q<l.countP p:=by
 induction l with
 |nil=>obtain⟨x,hx,_⟩:=hx;cases hx
 |cons a l ih=>
  have hl:l.countP q<=l.countP p:=List.countP_mono_left fun x hx=>h x (List.mem_cons_of_mem _ hx)
  rw[List.countP_cons,List.countP_cons]
  obtain⟨x,hx,hp,hq⟩:=hx
  rcases List.mem_cons.1 hx with rfl|hx
  ·simp[hp,hq];omega
  ·have:=ih (fun x hx=>h x (List.mem_cons_of_mem _ hx)) ⟨x,hx,hp,hq⟩
   have ha:=h a (List.mem_cons_self ..)
   cases hqa:q a
   ·simp only[Bool.false_eq_true,if_false];split<;>omega
   ·rw[ha hqa];simp only[if_true];omega
def mJ(ops:Array Oper)(listed:Array Bool):Nat:=(List.range ops.size).countP fun i=>!listed.getD i true
theorem qe{listed:Array Bool}{i:Nat}:(listed.setIfInBounds i true).getD i true=true:=by
 simp only[Array.getD_eq_getD_getElem?,Array.getElem?_setIfInBounds,if_true]
 split<;>rfl
theorem zq{F:Fence}{n:Nat}{P:Program}{md:Region.Mode}{ops:Array Oper}{Q:Exit->Act->World->Prop}(I:Array Bool->Act->World->Prop)
  (hend:∀listed a w,I listed a w->Region.ready md ops listed=[]->Q .normal a w)
  (hstep:∀listed a w i,I listed a w->i∈Region.ready md ops listed->wpOpIn F n P ops Q i (fun a' w'=>I (listed.setIfInBounds i true) a' w') a w):
  ∀fuel listed a w,I listed a w->mJ ops listed<=fuel->wpAnyIn F n P md ops Q fuel listed a w:=by
 intro fuel
 induction fuel with
 |zero=>
  intro listed a w hI hu
  have h0:Region.ready md ops listed=[]:=by
   rw[List.eq_nil_iff_forall_not_mem]
   intro i hi
   obtain⟨h1,o,ho,_⟩:=mem_ready.1 hi
   have:0<mJ ops listed:=List.countP_pos_iff.2 ⟨i,List.mem_range.2 (Array.getElem?_eq_some_iff.1 ho).1,by simp only[h1];rfl⟩
   omega
  exact⟨h0,hend _ _ _ hI h0⟩
 |succ fuel ih=>
  intro listed a w hI hu
  refine⟨fun h0=>hend _ _ _ hI h0,fun i hi=>?_⟩
  refine wpOpIn_mono (fun a' w' h'=>ih _ _ _ h' ?_) (hstep listed a w i hI hi)
  obtain⟨h1,o,ho,_⟩:=mem_ready.1 hi
  have hi':i<ops.size:=(Array.getElem?_eq_some_iff.1 ho).1
  have:mJ ops (listed.setIfInBounds i true)<mJ ops listed:=CT (fun x _ hx=>by
   by_cases hxi:i=x
   ·subst hxi;rw[qe]at hx;cases hx
   ·rwa [getD_set_ne _ hxi]at hx) ⟨i,List.mem_range.2 hi',by simp only[h1];rfl,by rw[qe];rfl⟩
  omega
theorem zx(ops:Array Oper)(listed:Array Bool):mJ ops listed<=ops.size:=by
 have:=List.countP_le_length (l:=List.range ops.size) (p:=fun i=>!listed.getD i true)
 rwa [List.length_range]at this
theorem sQ{F:Fence}{n:Nat}{P:Program}{ops:Array Oper}{Q:Exit->Act->World->Prop}{id:Nat}{a:Act}{w:World}(hm:P.follows .mixedOrders=true)(I:Array Bool->Act->World->Prop)
  (h0:I (Array.replicate ops.size false) a {w with drawn:=w.drawn+1})
  (hend:∀listed a w,I listed a w->Region.ready .any ops listed=[]->Q .normal a w)
  (hstep:∀listed a w i,I listed a w->i∈Region.ready .any ops listed->wpOpIn F n P ops Q i (fun a' w'=>I (listed.setIfInBounds i true) a' w') a w):
  (Code.region id ops true).wpIn F n P Q a w:=wpIn_region_any hm (zq I hend hstep _ _ _ _ h0 (zx _ _))
theorem ft{md:Region.Mode}{ops:Array Oper}{listed:Array Bool}(h:Region.ready md ops listed=[])(hs:listed.size=ops.size){k:Nat}{o:Oper}(ho:ops[k]?=some o)(ha:∀e∈o.after,Region.binds md e=true->listed.getD e.on false=true):listed.getD k false=true:=by
 cases h1:listed.getD k true
 ·have:k∈Region.ready md ops listed:=mem_ready.2 ⟨h1,o,ho,ha⟩
  rw[h]at this;cases this
 ·have hk:k<listed.size:=by rw[hs];exact(Array.getElem?_eq_some_iff.1 ho).1
  rw[Array.getD_eq_getD_getElem?,Array.getElem?_eq_getElem hk]at h1 ⊢
  exact h1
end Go
