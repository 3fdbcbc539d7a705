/- The machine and its runs, part 1. -/
import Derived.RangeFuncFrom
import Derived.RangeFuncLeaves
import Derived.RangeFuncBox
import Derived.RangeFuncNested
import Derived.Shelf.Abstract
import Derived.WalkKit
import Derived.OwnWalkIn
import Derived.TacticsInMore
import Derived.LoopNIn
import Derived.LoopIn
import Derived.Test.YtiibhndkoknmnaaGreatDoorProg
import Derived.Stop.RegionWithIn
import Derived.OrdersIn
set_option linter.unusedVariables false
set_option linter.unusedSimpArgs false
open Go renaming Program→SZ,Value→AT,World→SE,Exit→Xb,Act→VX,Addr→VD
open Go.World renaming alloc_heap_new→Tm,size_alloc→TR,putObj_heap_same→Vy,putObj_heap_other→SO,cell?→Ts,ownsRow_nil→VC,putObj→Uq
open Go.RowKit.Below renaming heap_alloc→UG,refl→S0
open Nat renaming le_refl→IN,reduceAdd→to,reduceSub→TB,le_trans→Tz,lt_succ_self→Td,lt_succ_of_lt→VF,le_succ→Tf,le_of_lt→X9,lt_of_lt_of_le→TC,lt_irrefl→Xw
open Array renaming getElem?_eq_some_iff→SB,replicate_succ→S8,replicate_zero→S9,getD_eq_getD_getElem?→Tp
open Go.Proofs.Tryz renaming prog→SI,f301→Ye
open List renaming size_toArray→Ta,length_cons→SA,length_nil→Tn,push_toArray→Ti,append_toArray→Tc,nil_append→SJ,cons_append→SK,range→Ur,map_append→Uu,nodup_cons→Xr,getElem?_eq_getElem→SH,length_append→IT,zip_toArray→Xv,zip_cons_cons→Xe,zip_nil_right→Xf,foldl_toArray'→WX,foldl_cons→WJ,foldl_nil→XO,setIfInBounds_toArray→V5,set_cons_succ→Xg,set_cons_zero→Xh,mem_cons→TG,mem_cons_of_mem→SQ,mem_range→XK
open Go.Builtin renaming append_→Ty
open Prod renaming fst→UQ,snd→Vv
open Go.Region renaming ready→Tt
namespace Go
open Go.RowKit
variable{F:Fence}{n:Nat}{P:SZ}
def SeqN(F:Fence)(m:Nat)(P:SZ)(gf:Nat)(lb:Array AT)(encs:Nat->Array AT)(Kp:SE->SE->Prop)(N:Nat)(w:SE):Prop:=
 ∀(l:Nat) (J:Nat->SE->Prop) (W:SE),Below w.heap.size w W->(∀k W1,J k W1->J k W1.drew)->(∀k W1,k<N->J k W1->YieldAt F (m-1) P l (encs k) W1 λe W'=>e=.returned (.bool true)/\J (k+1) W'/\Kp W1 W')->J 0 W->
  CallsIn F m P gf (#[.func (.yield l) #[] #[]]++lb) W λe W'=>(∃v,e=.returned v)/\J N W'
def Dd(B:Nat)(I:SE->Prop):Prop:=∀(W:SE) (l:Nat) (o o':Obj),I W->B<=l->W.heap[l]?=some o->o.isCells=false->I (W.putObj l o')
set_option maxHeartbeats 1000000 in
theorem qT{g:Operand}{ps:Array Tmp}{assign body:Code}{Q:Xb->VX->SE->Prop}{a:VX}{w:SE}(hro:F.round=none)(h1:1<=n){gf:Nat}{lb:Array AT}(hg:a.eval g=.func (.func gf) #[] lb)(hFg:F.fn gf)
  (eg:∀args w,(callFunc gf args).run P w=.ok (.enter gf args) w) {encs:Nat->Array AT} {Kp:SE->SE->Prop} {N:Nat} (hseq:SeqN F (n-1) P gf lb encs Kp N w) (hKt:∀{A B C:SE},Kp A B->Kp B C->Kp A C)
  (hKb:∀(W:SE) (l:Nat) (o o':Obj),w.heap.size<=l->W.heap[l]?=some o->o.isCells=false->o.isWalk=false->Kp W (W.putObj l o')) (hps:∀k,(encs k).size=ps.size)
  (I:Nat->SE->Prop) (A:Nat->VX->SE->Prop) (hI:∀k,Dd w.heap.size (I k)) (hA:∀k a1,Dd w.heap.size (A k a1)) (hId:∀k W,I k W->I k W.drew) (h0:∀o1 o2,I 0 ((w.alloc o1).alloc o2))
  (hassign:∀(l k:Nat) (W:SE),k<N->I k W->assign.wpIn (F.inRound l) (n-1-1) P (Exit.then (λa1 W1=>KeepsOthers W W1/\Kp W W1/\A k a1 W1) (λ_ _ _=>False)) {tmps:=(ps.zip (encs k)).foldl (λt (p,v)=>t.setIfInBounds p v) a.tmps,defers:=[]} W)
  (hbody:∀(l k:Nat) (a1:VX) (W1:SE),k<N->A k a1 W1->body.wpIn (F.inRound l) (n-1-1) P (λe _ W'=>e=.normal/\KeepsOthers W1 W'/\Kp W1 W'/\I (k+1) W') a1 W1)
  (hdone:∀(D:Nat) (W:SE),w.heap.size<=D->I N W->W.heap[D]?=some (.deferred (some []))->Q .normal {a with defers:={target:=.collected D,args:=#[]}::a.defers} W):
  (Code.rangeFunc g ps assign body).wpIn F n P Q a w:=by
 refine wpIn_rangeFunc λfn hfn=>?_;rw[hro];obtain⟨R,hR⟩:∃R:LoopState->Option Code->Loop,R=λst pe=>{state:=st,pending:=pe,fn,tmps:=a.tmps,params:=ps,assign,body,defers:=w.heap.size}:=⟨_,rfl⟩;obtain⟨W1,hW1⟩:∃W1,(w.alloc (.deferred (some []))).alloc (.loop (R .ready none))=W1:=⟨_,rfl⟩;have hL:W1.heap[w.heap.size+1]?=some (.loop (R .ready none)):=by have:=Tm (w.alloc (.deferred (some []))) (.loop (R .ready none));rw[TR,hW1]at this;exact this
 have hD:W1.heap[w.heap.size]?=some (.deferred (some [])):=by rw[<-hW1];exact(UG _ _ _ (by simp)).trans (Tm w _)
 have hb:Below w.heap.size w W1:=by rw[<-hW1];exact((S0 _ w).alloc (IN _) _).alloc (by simp) _
 refine⟨w.heap.size+1,[{target:=.collected w.heap.size,args:=#[]}],W1,{target:=.fn (.func gf) lb,args:=#[.func (.yield (w.heap.size+1)) #[] #[]]},W1,gf,#[.func (.yield (w.heap.size+1)) #[] #[]]++lb,W1,?_,?_,?_,?_,λ_=>h1,?_⟩
 ·rw[<-hW1,hR];exact run_enterLoop_outer _ _ _ _ _
 ·simp only[resolve,hg];simp[go_sem]
 ·intro f' hf';simp[Target.leads]at hf';subst hf';exact hFg
 ·simp[invoke,go_sem,eg]
 refine(hseq (w.heap.size+1) (λk W=>I k W/\W.heap[w.heap.size+1]?=some (.loop (R .ready none))/\W.heap[w.heap.size]?=some (.deferred (some []))) W1 hb (λk X h=>⟨hId k X h.1,h.2⟩) ?_ ⟨by rw[<-hW1];exact h0 _ _,hL,hD⟩).mono ?_
 ·rintro k X hk ⟨hi,hl,hd⟩;have hy:=run_yield (P:=P) (args:=encs k) hl (by rw[hR];exact hps k);rw[hR]at hy;refine⟨fn,_,assign,body,hy,roundIn_of_wpIn hfn (wpIn_mono (hassign _ k X hk hi) ?_)⟩;rintro e a1 Y hp
  cases e with
  |normal=>obtain⟨hko,hkp,hAk⟩:=hp;have hlY:=hko.same _ _ hl rfl;have hdY:=hko.same _ _ hd rfl;have hltY:=(SB.1 hlY).1;refine⟨_,run_beginRound hlY (by rw[hR]),?_⟩;refine wpIn_mono (hbody _ k a1 _ hk (hA k a1 _ _ _ _ hAk (by omega) hlY rfl)) ?_;rintro e a3 Z ⟨rfl,hko2,hkp2,hi2⟩;have hlZ:=hko2.same _ _ (Vy hltY) rfl;have hdZ:=hko2.same _ _ ((SO (by omega)).trans hdY) rfl;have he:=run_endRound (P:=P) none hlZ;refine⟨_,_,he,rfl,⟨hI _ _ _ _ _ hi2 (by omega) hlZ rfl,?_,(SO (by omega)).trans hdZ⟩,hKt hkp (hKt (hKb _ _ _ _ (by omega) hlY rfl rfl) (hKt hkp2 (hKb _ _ _ _ (by omega) hlZ rfl rfl)))⟩;have:=Vy (o:=.loop {({R .ready none with state:=.busy}:Loop)with state:=.ready,pending:=none}) (SB.1 hlZ).1;refine this.trans ?_;rw[hR]
  |ret=>exact hp.elim
  |exit id=>exact hp.elim
  |goto t=>exact hp.elim
  |panic ch=>exact hp.elim
  |outgrown=>exact hp.elim
 ·rintro e W2 ⟨⟨v,rfl⟩,hi,hl,hd⟩;have he:=run_endLoop (P:=P) hl (by rw[hR];simp);rw[hR]at he;exact⟨none,_,he,hdone _ _ (IN _) (hI _ _ _ _ _ hi (by omega) (by rw[hR]at hl;exact hl) rfl) ((SO (by omega)).trans hd)⟩
end Go
namespace Go.Proofs
open Go.RowKit Go.Shelf
set_option maxRecDepth 100000
attribute [local go_sem] Oper.semAt_some
def Bb.bl(z:Nat->Int):AT:=.agg #[.int .u8 (z 0),.int .u8 (z 1),.int .u8 (z 2),.int .u8 (z 3),.int .u8 (z 4),.int .u8 (z 5),.int .u8 (z 6),.int .u8 (z 7)]
def Bb.Kp(n₀ Bs:Nat)(A B:SE):Prop:=Below n₀ A B/\B.heap[Bs]?=A.heap[Bs]?
theorem Bb.Kp.refl(n₀ Bs:Nat)(A:SE):Bb.Kp n₀ Bs A A:=⟨S0 _ _,rfl⟩
theorem Bb.Kp.trans{n₀ Bs:Nat}{A B C:SE}(h:Bb.Kp n₀ Bs A B)(k:Bb.Kp n₀ Bs B C):Bb.Kp n₀ Bs A C:=⟨h.1.trans k.1,k.2.trans h.2⟩
def Bb.Cells(b off len:Nat)(z:Nat->Nat->Int)(W:SE):Prop:=∀j,j<len->∀k,k<8->W.cell? ⟨b,off+j*8+k,none⟩=some (.int .u8 (z j k))
set_option maxRecDepth 100000 in
set_option maxHeartbeats 4000000 in
theorem Bb.OX(F:Fence)(n:Nat)(h197:F.fn 197)(hro:F.round=none)(hn:1<=n)(l Bs n₀ b off len cap:Nat)(z:Nat->Nat->Int)(hreach:len<=100)(hb:b<n₀)(J:Nat->SE->Prop)
  (hY:∀(k:Nat) W,k<len->J k W->YieldAt F (n-1) SI l #[.int .i64 ((len-1-k:Nat):Int),Bb.bl (z (len-1-k))] W λe W'=>e=.returned (.bool true)/\J (k+1) W'/\Bb.Kp n₀ Bs W W')
  (W:SE) (hBs:W.cell? ⟨Bs,0,none⟩=some (.slice (some ⟨b,off,none⟩) len cap)) (hc:Bb.Cells b off len z W) (h0:J 0 W):
  CallsIn F n SI 197 #[.func (.yield l) #[] #[],.pointer (some ⟨Bs,0,none⟩)] W λe W'=>(∃v,e=.returned v)/\J len W':=by
 refine callsIn_of_wp Tryz.func197 rfl h197 ?_ hro;simp only[Tryz.ntmps197,Ta,SA,Tn,to,TB,S8,S9,Ti,Tc,SJ,SK];gi_wp2
 gi_loopw [3] (λi wr=>∃r:Nat,r<=len/\i=.int .i64 ((r:Int)-1)/\J (len-r) wr/\Bb.Kp n₀ Bs W wr)
  (λi _=>(intOf i+1).toNat)
 case atStart=>exact⟨len,IN _,by simp,by simpa using h0,Bb.Kp.refl _ _ _⟩
 case round=>
  obtain⟨r,hr,rfl,hJs,hnx⟩:=hrel;have hbx:wr.cell? ⟨Bs,0,none⟩=some (.slice (some ⟨b,off,none⟩) len cap):=by rw[<-hBs];simp only[Ts,hnx.2]
  cases r with
  |zero=>gi_wp2;go_end0;exact⟨⟨_,rfl⟩,by simpa using hJs⟩
  |succ r=>
   have hri:((r+1:Nat):Int)-1=(r:Int):=by omega
   rw[hri];have hcx:∀k,k<8->wr.cell? ⟨b,off+r*8+k,none⟩=some (.int .u8 (z r k)):=λk hk=>(hnx.1.cell (p:=⟨b,off+r*8+k,none⟩) hb).trans (hc r (by omega) k hk);have c0:=hcx 0 (by omega);have c1:=hcx 1 (by omega);have c2:=hcx 2 (by omega);have c3:=hcx 3 (by omega);have c4:=hcx 4 (by omega);have c5:=hcx 5 (by omega);have c6:=hcx 6 (by omega);have c7:=hcx 7 (by omega);simp only[Nat.add_zero]at c0;clear hcx;obtain⟨fn,tmps,assign,body,hy,hR⟩:=hY (len-(r+1)) wr (by omega) hJs;have e1:len-1-(len-(r+1))=r:=by omega
   have e2:len-(r+1)+1=len-r:=by omega
   rw[e1]at hy;rw[e2]at hR;simp only[Bb.bl]at hy;gi_wp2;refine hR.mono ?_;rintro e W3 ⟨rfl,hJ3,hk3⟩;gi_wp2
   go_roundw
   case rel=>exact⟨r,by omega,by simp,hJ3,hnx.trans hk3⟩
   case measure=>simp[intOf]
set_option maxHeartbeats 1000000 in
theorem Bb.abD(F:Fence)(n:Nat)(h128:F.fn 128)(hro:F.round=none)(a:Option VD)(len cap:Nat)(w:SE):
  CallsIn F n SI 128 #[.slice a len cap] w λe w'=>e=.returned (.func (.func 197) #[] #[.pointer (some ⟨w.heap.size,0,none⟩)])/\w'=w.alloc (.cells #[.slice a len cap] 31):=by
 refine callsIn_of_wp Tryz.func128 rfl h128 ?_ hro;simp only[Tryz.ntmps128,Ta,SA,Tn,to,TB,S8,S9,Ti,Tc,SJ,SK];gi_wp2;go_ret;exact⟨rfl,rfl⟩
theorem Bb.Cells.below{n₀ b off len:Nat}{z:Nat->Nat->Int}{A B:SE}(h:Below n₀ A B)(hb:b<n₀)(hc:Bb.Cells b off len z A):Bb.Cells b off len z B:=λj hj k hk=>(h.cell (p:=⟨b,off+j*8+k,none⟩) hb).trans (hc j hj k hk)
theorem Bb.OW(F:Fence)(n:Nat)(h197:F.fn 197)(hro:F.round=none)(hn:1<=n)(Bs n₀:Nat)(b off len cap:Nat)(z:Nat->Nat->Int)(hreach:len<=100)(w:SE)(hBs:Bs<w.heap.size)(hn₀:n₀<=w.heap.size)
  (hc:w.cell? ⟨Bs,0,none⟩=some (.slice (some ⟨b,off,none⟩) len cap)) (hb:b<n₀) (hI:Bb.Cells b off len z w):
  SeqN F n SI 197 #[.pointer (some ⟨Bs,0,none⟩)] (λk=>#[Value.int .i64 ((len-1-k:Nat):Int),Bb.bl (z (len-1-k))]) (Bb.Kp n₀ Bs) len w:=λl J W hW _ hY h0=>
 Bb.OX F n h197 hro hn l Bs n₀ b off len cap z hreach hb J (λk X hk hj=>hY k X hk hj) W ((hW.cell (p:=⟨Bs,0,none⟩) hBs).trans hc) (hI.below (hW.mono hn₀) hb) h0
end Go.Proofs
namespace Go
open Go.RowKit
variable{F:Fence}{n:Nat}{P:SZ}{w:SE}
structure TurnsC(B:Nat)(C:Nat->Prop)(W W':SE):Prop where
 size:W.heap.size<=W'.heap.size
 same:∀(k:Nat) (o:Obj),W.heap[k]?=some o->¬C k->(o.isCells=true\/B<=k)->W'.heap[k]?=some o
def Jk{α β:Type}(F:Fence)(n:Nat)(P:SZ)(g:Nat)(lb:Array AT)(enc:α->AT)(Seen:Nat->α->SE->Prop)(val:α->β)(out:List β)(D:Nat->Prop)(w:SE):Prop:=
 ∀(l:Nat) (J:List α->(Nat->Prop)->SE->Prop) (C:Nat->Prop) (W:SE),Below w.heap.size w W->(∀C,OwnFrom W.heap.size (λpre X=>J pre C X))->(∀k,C k->k<W.heap.size/\¬D k)->
  (∀pre C x W1,J pre C W1->(∀k,C k->k<W1.heap.size)->W.heap.size<=W1.heap.size->Seen W.heap.size x W1->pre.length<out.length->YieldAt F (n-1) P l #[enc x] W1 λe W'=>e=.returned (.bool true)/\∃C',J (pre++[x]) C' W'/\(∀k,C' k->k<W'.heap.size/\(C k\/W1.heap.size<=k))/\TurnsC W.heap.size C W1 W')->
  J [] C W->
  CallsIn F n P g (#[.func (.yield l) #[] #[]]++lb) W λe W'=>(∃v,e=.returned v)/\∃xs C',xs.map val=out/\J xs C' W'
def MB{α:Type}(B:Nat)(I:List α->(Nat->Prop)->SE->Prop)(xs:List α)(C:Nat->Prop)(W:SE):Xb->VX->SE->Prop
 | .normal,_,W'=>∃C',I xs C' W'/\(∀k,C' k->k<W'.heap.size/\(C k\/W.heap.size<=k))/\TurnsC B C W W'
 |_,_,_=>False
set_option maxHeartbeats 1000000 in
theorem qL{α β:Type}{g:Operand}{p:Tmp}{assign body:Code}{Q:Xb->VX->SE->Prop}{a:VX}
  (hro:F.round=none) (h1:F.depth.isSome=true->1<=n) {gf:Nat} {lb:Array AT} (hg:a.eval g=.func (.func gf) #[] lb) (hFg:F.fn gf) (eg:∀args w,(callFunc gf args).run P w=.ok (.enter gf args) w)
  {enc:α->AT} {Seen:Nat->α->SE->Prop} {val:α->β} {out:List β} {D:Nat->Prop} {w0:SE} (hseq:Jk F (n-1) P gf lb enc Seen val out D w0) (hb0:Below w0.heap.size w0 w)
  (hSeen:∀B x W l o o',Seen B x W->l<B->W.heap[l]?=some o->o.isCells=false->Seen B x (W.putObj l o'))
  (I:List α->(Nat->Prop)->SE->Prop) (hI:∀C,OwnFrom w.heap.size (λpre X=>I pre C X)) (C0:Nat->Prop) (hC0:∀k,C0 k->k<w.heap.size/\¬D k) (h0:I [] C0 w) (a₁:α->VX)
  (hassign:∀(l:Nat) (x:α) (W:SE) (K:VX->SE->Prop),K (a₁ x) W->
   assign.wpIn (F.inRound l) (n-1-1) P (Exit.then K (λ_ _ _=>False)) {tmps:=(#[p].zip #[enc x]).foldl (λt (p,v)=>t.setIfInBounds p v) a.tmps,defers:=[]} W)
  (hbody:∀(l:Nat) (pre:List α) (C:Nat->Prop) (x:α) (W:SE),I pre C W->(∀k,C k->k<W.heap.size)->w.heap.size+2<=W.heap.size->Seen (w.heap.size+2) x W->pre.length<out.length->body.wpIn (F.inRound l) (n-1-1) P (MB w.heap.size I (pre++[x]) C W) (a₁ x) W)
  (hdone:∀(D:Nat) (xs:List α) (C:Nat->Prop) (W:SE),w.heap.size<=D->¬C D->xs.map val=out->I xs C W->W.heap[D]?=some (.deferred (some []))->Q .normal {a with defers:={target:=.collected D,args:=#[]}::a.defers} W):
  (Code.rangeFunc g #[p] assign body).wpIn F n P Q a w:=by
 refine wpIn_rangeFunc ?_;intro fn hfn;rw[hro];obtain⟨rec,hrec⟩:∃rec:LoopState->Option Code->Loop,rec=λst pe=>{state:=st,pending:=pe,fn,tmps:=a.tmps,params:=#[p],assign,body,defers:=w.heap.size}:=⟨_,rfl⟩;obtain⟨W1,hW1⟩:∃W1,(w.alloc (.deferred (some []))).alloc (.loop (rec .ready none))=W1:=⟨_,rfl⟩;have sz1:W1.heap.size=w.heap.size+2:=by rw[<-hW1];simp
 have hL1:W1.heap[w.heap.size+1]?=some (.loop (rec .ready none)):=by rw[<-hW1];have:=Tm (w.alloc (.deferred (some []))) (.loop (rec .ready none));rwa [TR]at this
 have hK1:W1.heap[w.heap.size]?=some (.deferred (some [])):=by rw[<-hW1];exact(UG _ _ _ (by simp)).trans (Tm w _)
 have hI1:I [] C0 W1:=by rw[<-hW1];exact(hI C0).alloc _ ((hI C0).alloc _ h0)
 have hb1:Below w0.heap.size w0 W1:=by rw[<-hW1];exact hb0.trans ((((S0 _ w).alloc (IN _) _).alloc (by simp) _).mono hb0.size)
 refine⟨w.heap.size+1,[{target:=.collected w.heap.size,args:=#[]}],W1,{target:=.fn (.func gf) lb,args:=#[.func (.yield (w.heap.size+1)) #[] #[]]},W1,gf,
  #[.func (.yield (w.heap.size+1)) #[] #[]]++lb,W1,?_,?_,?_,?_,h1,?_⟩
 ·rw[<-hW1,hrec];exact run_enterLoop_outer _ _ _ _ _
 ·simp only[resolve,hg];simp[go_sem]
 ·intro f' hf';simp[Target.leads]at hf';subst hf';exact hFg
 ·simp[invoke,go_sem,eg]
 ·have hcell:∀{l:Nat} {o:Obj} {A B:SE} {row:Option Nat},l<W1.heap.size->A.heap[l]?=some o->A.grownBy B row->(∀r,row=some r->W1.heap.size<=r/\∃o:Obj,A.heap[r]?=some o/\o.isCells=false)->B.heap[l]?=some o:=λhlt ho hg' hr=>(hg'.block _ (SB.1 ho).1 (λe=>by have:=(hr _ e.symm).1;omega)).trans ho
  refine(hseq (w.heap.size+1)
   (λpre C W=>I pre C W/\¬C w.heap.size/\¬C (w.heap.size+1)/\W.heap[w.heap.size+1]?=some (.loop (rec .ready none))/\W.heap[w.heap.size]?=some (.deferred (some [])))
   C0 W1 hb1
   (λC s A B row hs hg' hr=>⟨hI C s A B row hs.1 hg' (λr e=>⟨by have:=(hr r e).1;omega,(hr r e).2⟩),hs.2.1,hs.2.2.1,hcell (by omega) hs.2.2.2.1 hg' hr,hcell (by omega) hs.2.2.2.2 hg' hr⟩)
   (λk hk=>⟨by have:=(hC0 k hk).1;omega,(hC0 k hk).2⟩) ?_ ⟨hI1,λe=>by have:=(hC0 _ e).1;omega,λe=>by have:=(hC0 _ e).1;omega,hL1,hK1⟩).mono ?_
  ·rintro pre C x W ⟨hi,nc0,nc1,hl,hk⟩ hC hsz hsn hlen;rw[sz1]at hsz hsn;have hy:=run_yield (P:=P) (args:=#[enc x]) hl (by rw[hrec];rfl);rw[hrec]at hy;refine⟨fn,_,assign,body,hy,roundIn_of_wpIn hfn (hassign _ x W _ ?_)⟩;clear hy;have hlt:w.heap.size+1<W.heap.size:=(SB.1 hl).1;refine⟨_,run_beginRound hl (by rw[hrec]),?_⟩;obtain⟨W2,hW2⟩:∃W2,W.putObj (w.heap.size+1) (.loop {rec .ready none with state:=.busy})=W2:=⟨_,rfl⟩;have sz2:W2.heap.size=W.heap.size:=by rw[<-hW2];simp
   have hl2:W2.heap[w.heap.size+1]?=some (.loop {rec .ready none with state:=.busy}):=by rw[<-hW2];exact Vy hlt
   have ho2:∀k,k≠w.heap.size+1->W2.heap[k]?=W.heap[k]?:=λk hk=>by rw[<-hW2];exact SO hk
   have hk2:W2.heap[w.heap.size]?=some (.deferred (some [])):=(ho2 _ (by omega)).trans hk;have hi2:I pre C W2:=by rw[<-hW2];exact(hI C).putObj _ hi (by omega) hl rfl
   have hs2:Seen (w.heap.size+2) x W2:=by rw[<-hW2];exact hSeen _ _ _ _ _ _ hsn (by omega) hl rfl
   rw[hW2];refine wpIn_mono (hbody _ pre C x W2 hi2 (λk hk=>by have:=hC k hk;omega) (by omega) hs2 hlen) ?_;rintro e a3 W3 hp
   cases e with
   |normal=>
    obtain⟨C',hi3,hC3,ht⟩:=hp;have hl3:=ht.same _ _ hl2 nc1 (.inr (by omega));have hk3:=ht.same _ _ hk2 nc0 (.inr (IN _));have hlt3:w.heap.size+1<W3.heap.size:=(SB.1 hl3).1;have hr:(Instr.endRound (w.heap.size+1) none).run P W3=.ok (.bool true) (W3.putObj (w.heap.size+1) (.loop (rec .ready none))):=by have:=run_endRound (P:=P) none hl3;rw[hrec]at this ⊢;exact this
    have sz3:(W3.putObj (w.heap.size+1) (.loop (rec .ready none))).heap.size=W3.heap.size:=by simp
    have hz:=ht.size;refine⟨_,_,hr,rfl,C',⟨(hI C').putObj _ hi3 (by omega) hl3 rfl,λh=>?_,λh=>?_,Vy hlt3,(SO (by omega)).trans hk3⟩,λk hk=>?_,by omega,λk o hk hnc ho=>?_⟩
    ·rcases(hC3 _ h).2 with h|h
     ·exact nc0 h
     ·omega
    ·rcases(hC3 _ h).2 with h|h
     ·exact nc1 h
     ·omega
    ·have:=hC3 k hk;exact⟨by omega,by rw[<-sz2];exact this.2⟩
    ·have hne:k≠w.heap.size+1:=λe=>by
      subst e;rw[hl]at hk;injection hk with hk;subst hk
      rcases ho with ho|ho
      ·cases ho
      ·omega
     rw[SO hne];exact ht.same k o ((ho2 k hne).trans hk) hnc (ho.imp id λh=>by omega)
   |_=>exact hp.elim
  ·rintro e W2 ⟨⟨v,rfl⟩,xs,C',hS,hi,nc0,nc1,hl,hk⟩;exact⟨none,_,by have:=run_endLoop (P:=P) hl (by rw[hrec];simp);rw[hrec]at this;exact this,hdone _ xs C' _ (IN _) nc0 hS ((hI C').putObj _ hi (by omega) hl rfl) ((SO (by omega)).trans hk)⟩
end Go
namespace Go.Proofs
open Go.RowKit Go.Shelf
set_option maxRecDepth 100000
attribute [local go_sem] Oper.semAt_some
def St.kQ(disks:Int):Nat->Int->List Int->List (List Int)
 |0,_,p=>[p]
 |k+1,lo,p=>((Ur (disks-(k+1:Nat)-lo+1).toNat).map λ(i:Nat)=>St.kQ disks k (lo+(i:Int)+1) (p++[lo+(i:Int)])).flatten
set_option maxHeartbeats 1000000 in
theorem St.Ib(F:Fence)(n:Nat)(h24:F.fn 210)(hro:F.round=none)(pv:AT)(d k:Int)(h1:pv.oneCell'=true)(w:SE):
  CallsIn F n SI 210 #[pv,.int .i64 d,.int .i64 k] w λe w'=>e=.returned (.func (.func 301) #[] #[.pointer (some ⟨w.heap.size,0,none⟩),.pointer (some ⟨w.heap.size+2,0,none⟩),.pointer (some ⟨w.heap.size+1,0,none⟩)])/\
   w'=((w.alloc (.cells #[pv] 58)).alloc (.cells #[.int .i64 d] 3)).alloc (.cells #[.int .i64 k] 3):=by
 refine callsIn_of_wp Tryz.func210 rfl h24 ?_ hro;simp only[Tryz.ntmps210,Ta,SA,Tn,to,TB,S8,S9,Ti,Tc,SJ,SK];gi_wp2;go_ret;simp
theorem St.room{F:Fence}(hd:F.depth=none)(k:Nat):F.room k:=λd h=>by rw[hd]at h;cases h
theorem St.JV{F:Fence}(hd:F.depth=none){m m':Nat}{P:SZ}{l:Nat}{f:FuncId}{tmps:Array AT}{assign body:Code}{w:SE}{R:Ending->SE->Prop}
  (h:RoundIn F m P l f tmps assign body w R):RoundIn F m' P l f tmps assign body w R:=⟨h.1,λc cs _=>h.2 c cs (St.room hd _)⟩
theorem St.om{W W':SE}(h:Below W.heap.size W W'):W.grownBy W' none:=⟨h.os,h.tape,h.output,h.size,λk hk _=>h.block k hk⟩
def St.Row(base:Nat)(v:AT)(p:List Int)(W:SE):Prop:=W.ownsRow base 3 1 v p.length (p.map (Value.int .i64))/\(v=.slice none 0 0↔p=[])
theorem St.Row.mono{base base':Nat}{v:AT}{p:List Int}{W:SE}(h:St.Row base v p W)(hb:base'<=base):St.Row base' v p W:=by
 obtain⟨⟨h1,h2⟩,h3⟩:=h;refine⟨⟨h1,?_⟩,h3⟩;rcases h2 with h2|⟨g,cap,cur,e1,e2,e3⟩
 ·exact .inl h2
 ·exact .inr ⟨g,cap,cur,e1,Tz hb e2,e3⟩
set_option maxRecDepth 100000 in
set_option maxHeartbeats 2000000 in
theorem St.aaE(F:Fence)(hd:F.depth=none)(n:Nat)(h32:F.fn 301)(h33:F.fn 302)(hro:F.round=none)(l Bp Bw Bd:Nat)(a:Option VD)(c:Nat)(p:List Int)(W:SE)(Rj:SE->Prop)
  (hCl:∀m W1,Below W.heap.size W W1->CallsIn F m SI 302 #[.slice a p.length c] W1 λe W2=>∃v',e=.returned v'/\St.Row W1.heap.size v' p W2/\Below W1.heap.size W1 W2)
  (hY:∀v' W2,Below W.heap.size W W2->St.Row W.heap.size v' p W2->YieldAt F (n-1) SI l #[v'] W2 λe W'=>e=.returned (.bool true)/\Rj W')
  (cp:W.cell? ⟨Bp,0,none⟩=some (.slice a p.length c)) (cw:W.cell? ⟨Bw,0,none⟩=some (.int .i64 (p.length:Int))):
  CallsIn F n SI 301 #[.func (.yield l) #[] #[],.pointer (some ⟨Bp,0,none⟩),.pointer (some ⟨Bw,0,none⟩),.pointer (some ⟨Bd,0,none⟩)] W λe W'=>(∃v,e=.returned v)/\Rj W':=by
 have hdd:∀k:Nat,(F.depth.isSome=true->1<=k):=λk h=>by rw[hd]at h;cases h
 obtain⟨W1,hW1⟩:∃W1,W.alloc (.cells #[.func (.yield l) #[] #[]] 433)=W1:=⟨_,rfl⟩;have b1:Below W.heap.size W W1:=by rw[<-hW1];exact(S0 _ W).alloc (IN _) _
 have b1d:Below W.heap.size W W1.drew:=b1.drew;have lt1:∀{b:Nat} {v:AT},W.cell? ⟨b,0,none⟩=some v->b<W.heap.size:=λ{b v} h=>by obtain⟨o,ho,_⟩:=cells_of_cell h;exact(SB.1 ho).1
 have cp1:W1.cell? ⟨Bp,0,none⟩=some (.slice a p.length c):=(b1.cell (p:=⟨Bp,0,none⟩) (lt1 cp)).trans cp;have cw1:W1.cell? ⟨Bw,0,none⟩=some (.int .i64 (p.length:Int)):=(b1.cell (p:=⟨Bw,0,none⟩) (lt1 cw)).trans cw;have hy1:W1.heap[W.heap.size]?=some (.cells #[.func (.yield l) #[] #[]] 433):=by rw[<-hW1];exact Tm W _
 have cy1:W1.cell? ⟨W.heap.size,0,none⟩=some (.func (.yield l) #[] #[]):=by simp[Ts,hy1]
 have hc1:=(hCl (n-1) W1.drew b1d).mono (R':=λe W2=>∃v',e=.returned v'/\W2.cell? ⟨W.heap.size,0,none⟩=some (.func (.yield l) #[] #[])/\YieldAt F (n-1) SI l #[v'] W2 λe W'=>e=.returned (.bool true)/\Rj W') (λe W2 ⟨v',he,hr,hb⟩=>by
  have sz1:W1.drew.heap.size=W.heap.size+1:=by rw[<-hW1];simp[World.drew]
  refine⟨v',he,(hb.cell (p:=⟨W.heap.size,0,none⟩) (by rw[sz1];exact Td _)).trans cy1,hY v' W2 (b1d.trans (hb.mono (by omega))) ?_⟩
  exact hr.mono (by omega))
 refine callsIn_of_wp Tryz.func301 rfl h32 ?_ hro;simp only[Tryz.ntmps301,Ta,SA,Tn,to,TB,S8,S9,Ti,Tc,SJ,SK];gi_wp2
 gi_region_with (first|(gi_at_call 302;refine hc1.mono ?_;clear hc1;rintro e W2 ⟨v',rfl,cy2,fn,tmps,assign,body,hy,hR⟩)|(refine hR.mono ?_;clear hR;rintro e W3 ⟨rfl,hj⟩))
 all_goals gi_wp2
 all_goals refine bodyPost_ret (results_none rfl _ _ _) rfl ?_
 all_goals exact⟨⟨_,rfl⟩,hj⟩
theorem St.acI:(SI.info? 3).map (λi=>(i.zero,i.size,i.bytes))=some (some (.int .i64 0),1,8):=by kernel_rfl
theorem St.iE{W:SE}{b o:Nat}{v:AT}(h:W.cell? ⟨b,o,none⟩=some v):b<W.heap.size:=by obtain⟨o,ho,_⟩:=cells_of_cell h;exact(SB.1 ho).1
theorem St.Row.alloc{base:Nat}{v:AT}{p:List Int}{W:SE}(h:St.Row base v p W)(o:Obj):St.Row base v p (W.alloc o):=by
 obtain⟨⟨h1,h2⟩,h3⟩:=h;refine⟨⟨h1,?_⟩,h3⟩;rcases h2 with h2|⟨g,cap,cur,e1,e2,e3,e4⟩
 ·exact .inl h2
 ·exact .inr ⟨g,cap,cur,e1,e2,(UG W o g (SB.1 e3).1).trans e3,e4⟩
theorem St.iR{W:SE}{b k:Nat}{v:AT}(h:W.cell? ⟨b,k,none⟩=some v)(o:Obj):(W.alloc o).cell? ⟨b,k,none⟩=some v:=cell_kept h (World.grownBy_alloc W o none) (λr e=>by cases e)
attribute [-go_sem] Ty
noncomputable def St.sel:List Bool->Code->Code
 |false::q,.seq x _=>St.sel q x
 |true::q,.seq _ x=>St.sel q x
 |_::q,.block _ x=>St.sel q x
 |_::q,.loop x=>St.sel q x
 |_,x=>x
noncomputable def St.body:Code:=Ye.body.getD .skip
def St.ShA(a:Option VD)(p:List Int)(W:SE):Prop:=∀j,j<p.length->∃g,a=some ⟨g,0,none⟩/\W.cell? ⟨g,j,none⟩=some (.int .i64 (p.getD j 0))
set_option maxRecDepth 100000 in
set_option maxHeartbeats 0 in
theorem St.JX(F:Fence)(hd:F.depth=none)(n:Nat)(h33:F.fn 302)(h24:F.fn 210)(hro:F.round=none)(Bp Bw Bd:Nat)(a:Option VD)(pl c:Nat)(kw dk dv:Int)(p':List Int)(wr:SE)
  (rp:wr.cell? ⟨Bp,0,none⟩=some (.slice a pl c)) (rw':wr.cell? ⟨Bw,0,none⟩=some (.int .i64 kw)) (rd:wr.cell? ⟨Bd,0,none⟩=some (.int .i64 dk))
  (hcA:CallsIn F (n-1) SI 302 #[.slice a pl c] wr.drew λe W2=>∃v',e=.returned v'/\W2.cell? ⟨Bw,0,none⟩=some (.int .i64 kw)/\W2.cell? ⟨Bd,0,none⟩=some (.int .i64 dk)/\
   (W2.alloc (.cells #[.int .i64 dv] 3)).cell? ⟨Bw,0,none⟩=some (.int .i64 kw)/\(W2.alloc (.cells #[.int .i64 dv] 3)).cell? ⟨Bd,0,none⟩=some (.int .i64 dk)/\
   ∃v3 W3,(Ty #[58,58] 58 #[v',.slice (some ⟨W2.heap.size,0,none⟩) 1 1]).run SI (W2.alloc (.cells #[.int .i64 dv] 3))=.ok v3 W3/\v3.oneCell'=true/\
    W3.cell? ⟨Bw,0,none⟩=some (.int .i64 kw)/\W3.cell? ⟨Bd,0,none⟩=some (.int .i64 dk)/\St.Row wr.heap.size v3 p' W3/\Below wr.heap.size wr W3)
  (hcB:CallsIn F (n-1) SI 302 #[.slice a pl c] (wr.drew.alloc (.cells #[.int .i64 dv] 3)) λe W2=>∃v',e=.returned v'/\W2.cell? ⟨Bw,0,none⟩=some (.int .i64 kw)/\W2.cell? ⟨Bd,0,none⟩=some (.int .i64 dk)/\
   ∃v3 W3,(Ty #[58,58] 58 #[v',.slice (some ⟨wr.heap.size,0,none⟩) 1 1]).run SI W2=.ok v3 W3/\v3.oneCell'=true/\
    W3.cell? ⟨Bw,0,none⟩=some (.int .i64 kw)/\W3.cell? ⟨Bd,0,none⟩=some (.int .i64 dk)/\St.Row wr.heap.size v3 p' W3/\Below wr.heap.size wr W3)
  (t0 t4 t5 t7 t8 t9 t10 t11 t12 t13 t14 t15 t16 t17 t18 t19 t20 t21 t22 t23 t24 t25 t26 t27 t28 t29 t30 t31 t32 t33 t34 t35 t36 t37 t38 t39 t40 t41 t42 t43 t44 t45 t46 t47 t48 t49:AT) (ds:List Deferred):
  (St.sel [true,true,true,true,true,true,true,true,false,true,false] St.body).wpIn F n SI
   (λe a w'=>e=.normal/\∃u37 u38 u39 u40 u41 u42 u43 v3 W3,St.Row wr.heap.size v3 p' W3/\Below wr.heap.size wr W3/\w'=((W3.alloc (.cells #[v3] 58)).alloc (.cells #[.int .i64 dk] 3)).alloc (.cells #[.int .i64 kw] 3)/\
    a={tmps:=#[t0,.pointer (some ⟨Bp,0,none⟩),.pointer (some ⟨Bw,0,none⟩),.pointer (some ⟨Bd,0,none⟩),t4,t5,.int .i64 dv,t7,t8,t9,t10,t11,t12,t13,t14,t15,t16,t17,t18,t19,t20,t21,t22,t23,t24,t25,t26,t27,t28,t29,t30,t31,t32,t33,t34,t35,t36,u37,u38,u39,u40,u41,u42,u43,
     .func (.func 301) #[] #[.pointer (some ⟨W3.heap.size,0,none⟩),.pointer (some ⟨W3.heap.size+2,0,none⟩),.pointer (some ⟨W3.heap.size+1,0,none⟩)],t45,t46,t47,t48,t49],defers:=ds})
   {tmps:=#[t0,.pointer (some ⟨Bp,0,none⟩),.pointer (some ⟨Bw,0,none⟩),.pointer (some ⟨Bd,0,none⟩),t4,t5,.int .i64 dv,t7,t8,t9,t10,t11,t12,t13,t14,t15,t16,t17,t18,t19,t20,t21,t22,t23,t24,t25,t26,t27,t28,t29,t30,t31,t32,t33,t34,t35,t36,t37,t38,t39,t40,t41,t42,t43,t44,t45,t46,t47,t48,t49],defers:=ds} wr:=by
 have hdd:∀k:Nat,(F.depth.isSome=true->1<=k):=λk h=>by rw[hd]at h;cases h
 have bdr:Below wr.heap.size wr wr.drew:=(S0 _ wr).drew;have cdr:∀{b:Nat} {v:AT},wr.cell? ⟨b,0,none⟩=some v->wr.drew.cell? ⟨b,0,none⟩=some v:=λ{b v} h=>(bdr.cell (p:=⟨b,0,none⟩) (St.iE h)).trans h;have rpd:=cdr rp;have rwd:=cdr rw';have rdd:=cdr rd;have caw:(wr.drew.alloc (.cells #[.int .i64 dv] 3)).cell? ⟨Bw,0,none⟩=some (.int .i64 kw):=St.iR (cdr rw') _;have cad:(wr.drew.alloc (.cells #[.int .i64 dv] 3)).cell? ⟨Bd,0,none⟩=some (.int .i64 dk):=St.iR (cdr rd) _;have cap:(wr.drew.alloc (.cells #[.int .i64 dv] 3)).cell? ⟨Bp,0,none⟩=some (.slice a pl c):=St.iR (cdr rp) _;have caw2:(wr.alloc (.cells #[.int .i64 dv] 3)).cell? ⟨Bw,0,none⟩=some (.int .i64 kw):=St.iR rw' _;have cad2:(wr.alloc (.cells #[.int .i64 dv] 3)).cell? ⟨Bd,0,none⟩=some (.int .i64 dk):=St.iR rd _;have cap2:(wr.alloc (.cells #[.int .i64 dv] 3)).cell? ⟨Bp,0,none⟩=some (.slice a pl c):=St.iR rp _;obtain⟨cc,hcc⟩:∃cc,cc=St.sel [true,true,true,true,true,true,true,true,false,true,false] St.body:=⟨_,rfl⟩;rw[<-hcc];simp only[St.sel,St.body,Ye,Option.getD_some]at hcc;rw[hcc];clear hcc cc;dsimp only
 gi_region_with (first|(rw[hrun])|(gi_at_call 302;refine hcA.mono ?_;rintro e W2 ⟨v',rfl,cw2,cd2,cw2',cd2',v3,W3,hrun,ho3,cw3,cd3,hrow,hbel⟩)|(gi_at_call 302;refine hcB.mono ?_;rintro e W2 ⟨v',rfl,cw2,cd2,v3,W3,hrun,ho3,cw3,cd3,hrow,hbel⟩)|(gi_at_call 210;refine(St.Ib F (n-1) h24 hro v3 _ _ ho3 W3).mono ?_;rintro e W4 ⟨rfl,rfl⟩))
 all_goals exact⟨rfl,_,_,_,_,_,_,_,v3,W3,hrow,hbel,rfl,rfl⟩
theorem St.ShA.kZ{a:Option VD}{p:List Int}{W W':SE}(h:St.ShA a p W)(hk:∀g j v,a=some ⟨g,0,none⟩->W.cell? ⟨g,j,none⟩=some v->W'.cell? ⟨g,j,none⟩=some v):St.ShA a p W':=λj hj=>let⟨g,e,hc⟩:=h j hj;⟨g,e,hk g j _ e hc⟩
theorem St.ShA.below{a:Option VD}{p:List Int}{W W':SE}(h:St.ShA a p W)(hb:Below W.heap.size W W'):St.ShA a p W':=h.kZ λg j _ _ hc=>(hb.cell (p:=⟨g,j,none⟩) (St.iE hc)).trans hc
theorem St.wP{base:Nat}{v:AT}{p:List Int}{W:SE}(h:St.Row base v p W)(b:Nat)(d:Int)(hd:W.cell? ⟨b,0,none⟩=some (.int .i64 d))(hbase:base<=W.heap.size)(hl:p.length<=60):
  ∃v3 W3,(Ty #[58,58] 58 #[v,.slice (some ⟨b,0,none⟩) 1 1]).run SI W=.ok v3 W3/\v3.oneCell'=true/\St.Row base v3 (p++[d]) W3/\Below base W W3:=by
 obtain⟨i0,hi,hz0,hz1,hz2⟩:=info_parts St.acI;obtain⟨v3,W3,hrun,r1,r2,r3⟩:=run_append_own (P:=SI) W base 58 58 3 i0 (.int .i64 0) 1 8 Tryz.underlying58 hi hz0 hz1 hz2 rfl (by decide) v p.length (p.map (Value.int .i64)) h.1 ⟨b,0,none⟩ 1 1 [.int .i64 d] rfl
  (λj u hj=>by
   match j,hj with
   |0,hj=>injection hj with hj;subst hj;exact hd) (λu hu=>by simp at hu;subst hu;rfl) (by simp only[maxLen];omega) (by omega) hbase
 refine⟨v3,W3,hrun,?_,⟨?_,?_⟩,?_⟩
 ·rcases r1.2 with⟨e,_⟩|⟨g,cap,cur,e,_⟩<;>subst e<;>rfl
 ·have:(p++[d]).length=p.length+1:=by simp
  rw[this,Uu];exact r1
 ·rw[r3];simp
 ·refine((S0 W.heap.size W).mono hbase).grown r2 hbase λk e=>?_;rcases h.1.2 with⟨e0,_⟩|⟨g,cap,cur,e0,hg,_⟩
  ·rw[e0]at e;cases e
  ·rw[e0]at e;injection e with e;subst e;exact hg
def St.Cl(F:Fence):Prop:=∀(a:Option VD) (p:List Int) (c:Nat),(a=none↔p=[])->p.length<=60->∀m W1,St.ShA a p W1->
 CallsIn F m SI 302 #[.slice a p.length c] W1 λe W2=>∃v',e=.returned v'/\St.Row W1.heap.size v' p W2/\Below W1.heap.size W1 W2
theorem St.ac1{F:Fence}{m:Nat}{a:Option VD}{c:Nat}{p:List Int}(hap:a=none↔p=[])(hl:p.length<=60)(hCl:St.Cl F)
  {wr:SE} {Bw Bd:Nat} {kw dk d:Int} (rs:St.ShA a p wr) (rw':wr.cell? ⟨Bw,0,none⟩=some (.int .i64 kw)) (rd:wr.cell? ⟨Bd,0,none⟩=some (.int .i64 dk)):
  CallsIn F m SI 302 #[.slice a p.length c] wr.drew λe W2=>∃v',e=.returned v'/\W2.cell? ⟨Bw,0,none⟩=some (.int .i64 kw)/\W2.cell? ⟨Bd,0,none⟩=some (.int .i64 dk)/\
     (W2.alloc (.cells #[.int .i64 d] 3)).cell? ⟨Bw,0,none⟩=some (.int .i64 kw)/\(W2.alloc (.cells #[.int .i64 d] 3)).cell? ⟨Bd,0,none⟩=some (.int .i64 dk)/\
     ∃v3 W3,(Ty #[58,58] 58 #[v',.slice (some ⟨W2.heap.size,0,none⟩) 1 1]).run SI (W2.alloc (.cells #[.int .i64 d] 3))=.ok v3 W3/\v3.oneCell'=true/\
      W3.cell? ⟨Bw,0,none⟩=some (.int .i64 kw)/\W3.cell? ⟨Bd,0,none⟩=some (.int .i64 dk)/\St.Row wr.heap.size v3 (p++[d]) W3/\Below wr.heap.size wr W3:=by
 have bd:Below wr.heap.size wr wr.drew:=(S0 _ wr).drew;have sz:wr.drew.heap.size=wr.heap.size:=rfl;refine(hCl a p c hap hl m wr.drew (rs.below bd)).mono λe W2 ⟨v',he,hr,hb⟩=>?_;have lw:=St.iE rw';have ld:=St.iE rd;have cw2:W2.cell? ⟨Bw,0,none⟩=some (.int .i64 kw):=(hb.cell (p:=⟨Bw,0,none⟩) lw).trans ((bd.cell (p:=⟨Bw,0,none⟩) lw).trans rw');have cd2:W2.cell? ⟨Bd,0,none⟩=some (.int .i64 dk):=(hb.cell (p:=⟨Bd,0,none⟩) ld).trans ((bd.cell (p:=⟨Bd,0,none⟩) ld).trans rd);have hsz:=hb.size;rw[sz]at hsz;have ha:Below wr.heap.size W2 (W2.alloc (.cells #[.int .i64 d] 3)):=((S0 _ W2).alloc (IN _) _).mono hsz;have hn:(W2.alloc (.cells #[.int .i64 d] 3)).cell? ⟨W2.heap.size,0,none⟩=some (.int .i64 d):=by have:=Tm W2 (.cells #[.int .i64 d] 3);simp only[Ts,this];rfl
 obtain⟨v3,W3,hrun,ho3,hrow,hb3⟩:=St.wP (hr.alloc _) W2.heap.size d hn (by rw[sz];exact Tz hsz ha.size) hl;exact⟨v',he,cw2,cd2,St.iR cw2 _,St.iR cd2 _,v3,W3,hrun,ho3,(hb3.cell (p:=⟨Bw,0,none⟩) lw).trans (St.iR cw2 _),(hb3.cell (p:=⟨Bd,0,none⟩) ld).trans (St.iR cd2 _),hrow,bd.trans (hb.trans (ha.trans hb3))⟩
theorem St.ac0{F:Fence}{m:Nat}{a:Option VD}{c:Nat}{p:List Int}(hap:a=none↔p=[])(hl:p.length<=60)(hCl:St.Cl F)
  {wr:SE} {Bw Bd:Nat} {kw dk d:Int} (rs:St.ShA a p wr) (rw':wr.cell? ⟨Bw,0,none⟩=some (.int .i64 kw)) (rd:wr.cell? ⟨Bd,0,none⟩=some (.int .i64 dk)):
  CallsIn F m SI 302 #[.slice a p.length c] (wr.drew.alloc (.cells #[.int .i64 d] 3)) λe W2=>∃v',e=.returned v'/\W2.cell? ⟨Bw,0,none⟩=some (.int .i64 kw)/\W2.cell? ⟨Bd,0,none⟩=some (.int .i64 dk)/\
     ∃v3 W3,(Ty #[58,58] 58 #[v',.slice (some ⟨wr.heap.size,0,none⟩) 1 1]).run SI W2=.ok v3 W3/\v3.oneCell'=true/\
      W3.cell? ⟨Bw,0,none⟩=some (.int .i64 kw)/\W3.cell? ⟨Bd,0,none⟩=some (.int .i64 dk)/\St.Row wr.heap.size v3 (p++[d]) W3/\Below wr.heap.size wr W3:=by
 have bd:Below wr.heap.size wr wr.drew:=(S0 _ wr).drew;have sz:wr.drew.heap.size=wr.heap.size:=rfl;have ba:Below wr.heap.size wr (wr.drew.alloc (.cells #[.int .i64 d] 3)):=bd.trans ((S0 _ wr.drew).alloc (IN _) _);have sza:(wr.drew.alloc (.cells #[.int .i64 d] 3)).heap.size=wr.heap.size+1:=by rw[TR,sz]
 have hn:(wr.drew.alloc (.cells #[.int .i64 d] 3)).cell? ⟨wr.heap.size,0,none⟩=some (.int .i64 d):=by have:=Tm wr.drew (.cells #[.int .i64 d] 3);rw[sz]at this;simp only[Ts,this];rfl
 refine(hCl a p c hap hl m _ (rs.below ba)).mono λe W2 ⟨v',he,hr,hb⟩=>?_;rw[sza]at hr hb;have lw:=St.iE rw';have ld:=St.iE rd;have cw2:W2.cell? ⟨Bw,0,none⟩=some (.int .i64 kw):=(hb.cell (p:=⟨Bw,0,none⟩) (VF lw)).trans ((ba.cell (p:=⟨Bw,0,none⟩) lw).trans rw');have cd2:W2.cell? ⟨Bd,0,none⟩=some (.int .i64 dk):=(hb.cell (p:=⟨Bd,0,none⟩) (VF ld)).trans ((ba.cell (p:=⟨Bd,0,none⟩) ld).trans rd);have hn2:=(hb.cell (p:=⟨wr.heap.size,0,none⟩) (Td _)).trans hn;have hsz:=hb.size;rw[sza]at hsz;obtain⟨v3,W3,hrun,ho3,hrow,hb3⟩:=St.wP hr wr.heap.size d hn2 hsz hl;exact⟨v',he,cw2,cd2,v3,W3,hrun,ho3,(hb3.cell (p:=⟨Bw,0,none⟩) (VF lw)).trans cw2,(hb3.cell (p:=⟨Bd,0,none⟩) (VF ld)).trans cd2,hrow.mono (Tf _),ba.trans ((hb.mono (Tf _)).trans (hb3.mono (Tf _)))⟩
def St.mark(D:Nat):Deferred:={target:=.collected D,args:=#[]}
theorem St.leaves{B:Nat}{F:Fence}{n:Nat}{P:SZ}{fn:Func}{tmps:Array AT}{R:Ending->SE->Prop}(I:SE->Prop)(hI:∀W D,I W->(∃x,W.heap[D]?=some (.deferred x))->B<=D->I (W.putObj D (.deferred none)))
  (hR:∀W,I W->LeavesIn F n P fn tmps R [] .returning W):∀(Ds:List Nat) (W:SE),Ds.Nodup->(∀D∈Ds,B<=D/\W.heap[D]?=some (.deferred (some [])))->I W->LeavesInM F n P fn tmps R (Ds.map St.mark) .returning W:=by
 intro Ds
 induction Ds with
 |nil=>exact λW _ _ h=>hR W h
 |cons D Ds ih=>intro W hn hD hi;have h0:=hD D (by simp);refine⟨by simp,.inl ⟨D,W.putObj D (.deferred none),rfl,run_takeDeferred h0.2,ih _ (Xr.1 hn).2 (λD' h'=>?_) (hI _ _ hi ⟨_,h0.2⟩ h0.1)⟩⟩;have hne:D'≠D:=λe=>(Xr.1 hn).1 (e▸h');exact⟨(hD D' (by simp[h'])).1,(SO hne).trans (hD D' (by simp[h'])).2⟩
def St.Own(Bp Bw Bd:Nat)(a:Option VD)(b:Nat):Prop:=b=Bp\/b=Bw\/b=Bd\/∃g,a=some ⟨g,0,none⟩/\b=g
def St.Q9(F:Fence)(n k:Nat):Prop:=∀(lo dk:Int) (p:List Int) (a:Option VD) (c Bp Bw Bd:Nat) (w:SE),
 (a=none↔p=[])->p.length+k<=60->0<=lo->0<=dk->dk<=60->lo<=dk+1->(p=[]->lo=0)->(p≠[]->p.getD (p.length-1) 0=lo-1)->
 w.cell? ⟨Bp,0,none⟩=some (.slice a p.length c)->w.cell? ⟨Bw,0,none⟩=some (.int .i64 ((p.length+k:Nat):Int))->w.cell? ⟨Bd,0,none⟩=some (.int .i64 dk)->St.ShA a p w->
 Jk F n SI 301 #[.pointer (some ⟨Bp,0,none⟩),.pointer (some ⟨Bw,0,none⟩),.pointer (some ⟨Bd,0,none⟩)] (UQ (β:=List Int)) (λB x W=>St.Row B x.1 x.2 W) Vv (St.kQ dk k lo p) (St.Own Bp Bw Bd a) w
structure St.Inv(J:List (AT×List Int)->(Nat->Prop)->SE->Prop)(B0 l:Nat)(C0:Nat->Prop)(Bp Bw Bd:Nat)(a:Option VD)(p:List Int)(c:Nat)(kw dk:Int)(Ds:List Nat)(xs:List (AT×List Int))(C:Nat->Prop)(W:SE):Prop where
 j:J xs C W
 old:∀b,C b->b<W.heap.size/\(C0 b\/B0<b)
 size:B0<W.heap.size
 marks:∀D∈Ds,B0<D/\¬C D/\W.heap[D]?=some (.deferred (some []))
 cp:W.cell? ⟨Bp,0,none⟩=some (.slice a p.length c)
 cw:W.cell? ⟨Bw,0,none⟩=some (.int .i64 kw)
 cd:W.cell? ⟨Bd,0,none⟩=some (.int .i64 dk)
 cy:W.cell? ⟨B0,0,none⟩=some (.func (.yield l) #[] #[])
 sh:St.ShA a p W
theorem St.Inv.own{J:List (AT×List Int)->(Nat->Prop)->SE->Prop}{B0 l:Nat}{C0:Nat->Prop}{Bp Bw Bd:Nat}{a:Option VD}{p:List Int}{c:Nat}{kw dk:Int}{Ds:List Nat}{xs:List (AT×List Int)}{C:Nat->Prop}
  (hJ:∀C,OwnFrom B0 (λpre X=>J pre C X)) {W W':SE} {row:Option Nat} (h:St.Inv J B0 l C0 Bp Bw Bd a p c kw dk Ds xs C W) (hg:W.grownBy W' row) (hr:∀r,row=some r->B0<r/\r∉Ds/\∃o:Obj,W.heap[r]?=some o/\o.isCells=false):
  St.Inv J B0 l C0 Bp Bw Bd a p c kw dk Ds xs C W':=by
 have hr':∀r,row=some r->∃o:Obj,W.heap[r]?=some o/\o.isCells=false:=λr e=>(hr r e).2.2
 exact⟨hJ C xs W W' row h.j hg (λr e=>⟨X9 (hr r e).1,(hr r e).2.2⟩),λb hb=>⟨TC (h.old b hb).1 hg.size,(h.old b hb).2⟩,TC h.size hg.size,
  λD hD=>⟨(h.marks D hD).1,(h.marks D hD).2.1,(hg.block D (SB.1 (h.marks D hD).2.2).1 (λe=>(hr D e.symm).2.1 hD)).trans (h.marks D hD).2.2⟩,
  cell_kept h.cp hg hr',cell_kept h.cw hg hr',cell_kept h.cd hg hr',cell_kept h.cy hg hr',h.sh.kZ λg j v _ hc=>cell_kept hc hg hr'⟩
theorem St.Inv.turn{J:List (AT×List Int)->(Nat->Prop)->SE->Prop}{B0 l:Nat}{C0:Nat->Prop}{Bp Bw Bd:Nat}{a:Option VD}{p:List Int}{c:Nat}{kw dk:Int}{Ds:List Nat}{xs ys:List (AT×List Int)}{C C':Nat->Prop}{W W':SE}
  (hC0:∀b,C0 b->b<B0/\¬St.Own Bp Bw Bd a b) (hlt:∀b,St.Own Bp Bw Bd a b->b<B0) (h:St.Inv J B0 l C0 Bp Bw Bd a p c kw dk Ds xs C W) (ht:TurnsC B0 C W W') (hj:J ys C' W') (hc:∀k,C' k->k<W'.heap.size/\(C k\/W.heap.size<=k)):
  St.Inv J B0 l C0 Bp Bw Bd a p c kw dk Ds ys C' W':=by
 have hs:=h.size;have hz:=ht.size
 have own:∀b,St.Own Bp Bw Bd a b->¬C b:=λb hb hC=>by
  rcases(h.old b hC).2 with h1|h1
  ·exact(hC0 b h1).2 hb
  ·exact Nat.lt_asymm h1 (hlt b hb)
 have cell:∀{b o:Nat} {v:AT},¬C b->W.cell? ⟨b,o,none⟩=some v->W'.cell? ⟨b,o,none⟩=some v:=λ{b o v} hb hv=>by obtain⟨ob,ho,hcl⟩:=cells_of_cell hv;exact(World.cell?_of_block ((ht.same b ob ho hb (.inl hcl)).trans ho.symm)).trans hv
 have n0:¬C B0:=λhC=>by
  rcases(h.old B0 hC).2 with h1|h1
  ·exact Xw _ (hC0 B0 h1).1
  ·exact Xw _ h1
 refine⟨hj,λb hb=>⟨(hc b hb).1,?_⟩,by omega,λD hD=>⟨(h.marks D hD).1,λhC=>?_,ht.same D _ (h.marks D hD).2.2 (h.marks D hD).2.1 (.inr (X9 (h.marks D hD).1))⟩,cell (own _ (.inl rfl)) h.cp,cell (own _ (.inr (.inl rfl))) h.cw,cell (own _ (.inr (.inr (.inl rfl)))) h.cd,cell n0 h.cy,
  h.sh.kZ λg j v e hv=>cell (own _ (.inr (.inr (.inr ⟨g,e,rfl⟩)))) hv⟩
 ·rcases(hc b hb).2 with h1|h1
  ·exact(h.old b h1).2
  ·exact .inr (by omega)
 ·rcases(hc D hC).2 with h1|h1
  ·exact(h.marks D hD).2.1 h1
  ·have:=(SB.1 (h.marks D hD).2.2).1;omega
theorem St.ni(W:SE)(v:AT)(t:TypeId):(W.alloc (.cells #[v] t)).cell? ⟨W.heap.size,0,none⟩=some v:=by have:=Tm W (.cells #[v] t);simp only[Ts,this];rfl
theorem St.boxes(W:SE)(u v x:AT)(r s t:TypeId):(((W.alloc (.cells #[u] r)).alloc (.cells #[v] s)).alloc (.cells #[x] t)).cell? ⟨W.heap.size,0,none⟩=some u/\
  (((W.alloc (.cells #[u] r)).alloc (.cells #[v] s)).alloc (.cells #[x] t)).cell? ⟨W.heap.size+1,0,none⟩=some v/\(((W.alloc (.cells #[u] r)).alloc (.cells #[v] s)).alloc (.cells #[x] t)).cell? ⟨W.heap.size+2,0,none⟩=some x:=by
 have h2:=St.ni (W.alloc (.cells #[u] r)) v s;have h3:=St.ni ((W.alloc (.cells #[u] r)).alloc (.cells #[v] s)) x t;rw[TR]at h2 h3;rw[TR]at h3;exact⟨St.iR (St.iR (St.ni W u r) _) _,St.iR h2 _,h3⟩
theorem St.Row.sha{base:Nat}{v:AT}{p:List Int}{W:SE}(h:St.Row base v p W)(hp:p≠[]):∃g cap,v=.slice (some ⟨g,0,none⟩) p.length cap/\base<=g/\g<W.heap.size/\St.ShA (some ⟨g,0,none⟩) p W:=by
 rcases h.1.2 with⟨e,_⟩|⟨g,cap,cur,e,hb,hg,_,_,_,ht⟩
 ·exact absurd (h.2.1 e) hp
 ·refine⟨g,cap,e,hb,(SB.1 hg).1,λj hj=>⟨g,rfl,?_⟩⟩;have h1:(cur.toList.take (p.length*1))[j]?=some (.int .i64 (p.getD j 0)):=by rw[ht,List.getElem?_map,SH hj,List.getD_eq_getElem?_getD,SH hj];rfl
  rw[List.getElem?_take,if_pos (by omega),Array.getElem?_toList]at h1;simp only[Ts,hg];exact h1
def St.part(dk:Int)(k:Nat)(lo:Int)(p:List Int)(j:Nat):List (List Int):=((Ur j).map λ(i:Nat)=>St.kQ dk k (lo+(i:Int)+1) (p++[lo+(i:Int)])).flatten
theorem St.vz(dk:Int)(k:Nat)(lo:Int)(p:List Int)(j:Nat):St.part dk k lo p (j+1)=St.part dk k lo p j++St.kQ dk k (lo+(j:Int)+1) (p++[lo+(j:Int)]):=by simp[St.part,List.range_succ]
theorem St.Ss(dk:Int)(k:Nat)(lo:Int)(p:List Int)(j m:Nat):(St.part dk k lo p j).length<=(St.part dk k lo p (j+m)).length:=by
 induction m with
 |zero=>exact IN _
 |succ m ih=>rw[<-Nat.add_assoc,St.vz,IT];omega
theorem St.wG(dk:Int)(k:Nat)(lo:Int)(p:List Int):St.kQ dk (k+1) lo p=St.part dk k lo p (dk-(k+1:Nat)-lo+1).toNat:=rfl
set_option maxRecDepth 100000 in
set_option maxHeartbeats 0 in
theorem St.ID(F:Fence)(hd:F.depth=none)(n:Nat)(h32:F.fn 301)(h33:F.fn 302)(h24:F.fn 210)(hro:F.round=none)(hCl:St.Cl F)(k:Nat)(ih:∀n,St.Q9 F n k)(lo dk:Int)(p:List Int)(a:Option VD)(c Bp Bw Bd l:Nat)
  (J:List (AT×List Int)->(Nat->Prop)->SE->Prop) (B0:Nat) (C0:Nat->Prop) (hJ:∀C,OwnFrom B0 (λpre X=>J pre C X)) (hC0:∀b,C0 b->b<B0/\¬St.Own Bp Bw Bd a b) (hlt:∀b,St.Own Bp Bw Bd a b->b<B0)
  (hap:a=none↔p=[]) (hpb:p.length+k+1<=60) (hlo:0<=lo) (hdk0:0<=dk) (hdk:dk<=60)
  (hY:∀pre C x W1,J pre C W1->(∀k,C k->k<W1.heap.size)->B0<=W1.heap.size->St.Row B0 x.1 x.2 W1->pre.length<(St.kQ dk (k+1) lo p).length->YieldAt F (n-1) SI l #[x.1] W1 λe W'=>e=.returned (.bool true)/\∃C',J (pre++[x]) C' W'/\(∀k,C' k->k<W'.heap.size/\(C k\/W1.heap.size<=k))/\TurnsC B0 C W1 W')
  (t0 t5 t7 t8 t9 t10 t11 t12 t13 t14 t15 t16 t17 t18 t19 t20 t21 t22 t23 t24 t25 t26 t27 t28 t29 t30 t31 t32 t33 t34 t35 t36 t37 t38 t39 t40 t41 t42 t43 t44 t45 t46 t47 t48 t49:AT) (wr:SE) (h0:St.Inv J B0 l C0 Bp Bw Bd a p c ((p.length+k+1:Nat):Int) dk [] [] C0 wr) (Q:Xb->VX->SE->Prop)
  (hQ:∀a' w',(∃xs C Ds,a'.defers=Ds.map St.mark/\Ds.Nodup/\St.Inv J B0 l C0 Bp Bw Bd a p c ((p.length+k+1:Nat):Int) dk Ds xs C w'/\xs.map Vv=St.kQ dk (k+1) lo p)->Q .normal a' w'):
  (St.sel [true,true,true,true,true,true] St.body).wpIn F n SI (Exit.inBlock 0 Q)
   {tmps:=#[t0,.pointer (some ⟨Bp,0,none⟩),.pointer (some ⟨Bw,0,none⟩),.pointer (some ⟨Bd,0,none⟩),.pointer (some ⟨B0,0,none⟩),t5,.int .i64 lo,t7,t8,t9,t10,t11,t12,t13,t14,t15,t16,t17,t18,t19,t20,t21,t22,t23,t24,t25,t26,t27,t28,t29,t30,t31,t32,t33,t34,t35,t36,t37,t38,t39,t40,t41,t42,t43,t44,t45,t46,t47,t48,t49],defers:=[]} wr:=by
 have hdd:∀k:Nat,(F.depth.isSome=true->1<=k):=λk h=>by rw[hd]at h;cases h
 obtain⟨cc,hcc⟩:∃cc,cc=St.sel [true,true,true,true,true,true] St.body:=⟨_,rfl⟩;rw[<-hcc];simp only[St.sel,St.body,Ye,Option.getD_some]at hcc;rw[hcc];clear hcc cc;dsimp only
 refine wpIn_loop (λa' w'=>∃(j:Nat) (xs:List (AT×List Int)) (C:Nat->Prop) (Ds:List Nat) (u7 u27 u28 u29 u30 u31 u32 u33 u34 u35 u36 u37 u38 u39 u40 u41 u42 u43 u44 u45 u46 u47 u48 u49:AT),a'={tmps:=#[t0,.pointer (some ⟨Bp,0,none⟩),.pointer (some ⟨Bw,0,none⟩),.pointer (some ⟨Bd,0,none⟩),.pointer (some ⟨B0,0,none⟩),t5,.int .i64 (lo+(j:Int)),u7,t8,t9,t10,t11,t12,t13,t14,t15,t16,t17,t18,t19,t20,t21,t22,t23,t24,t25,t26,u27,u28,u29,u30,u31,u32,u33,u34,u35,u36,u37,u38,u39,u40,u41,u42,u43,u44,u45,u46,u47,u48,u49],defers:=Ds.map St.mark}/\Ds.Nodup/\
  St.Inv J B0 l C0 Bp Bw Bd a p c ((p.length+k+1:Nat):Int) dk Ds xs C w'/\j<=(dk-(k+1:Nat)-lo+1).toNat/\xs.map Vv=St.part dk k lo p j)
  (λa' _=>(dk+1-intOf (a'.tmps.getD 6 undef)).toNat) ?start ?round
 case start=>refine⟨0,[],C0,[],t7,t27,t28,t29,t30,t31,t32,t33,t34,t35,t36,t37,t38,t39,t40,t41,t42,t43,t44,t45,t46,t47,t48,t49,?_,List.nodup_nil,h0,Nat.zero_le _,rfl⟩;simp
 case round=>
  rintro _ wr ⟨j,xs,C,Ds,u7,u27,u28,u29,u30,u31,u32,u33,u34,u35,u36,u37,u38,u39,u40,u41,u42,u43,u44,u45,u46,u47,u48,u49,rfl,hnd,hI,hj,hxs⟩;dsimp only;have rp:=hI.cp;have rw':=hI.cw;have rd:=hI.cd;have ry:=hI.cy;by_cases hend:lo+(j:Int)<=dk-(k+1)
  ·gi_wp2;have hl60:p.length<=60:=by omega
   refine wpIn_mono (St.JX F hd n h33 h24 hro Bp Bw Bd a p.length c ((p.length+k+1:Nat):Int) dk (lo+(j:Int)) (p++[lo+(j:Int)]) wr rp rw' rd (St.ac1 hap hl60 hCl hI.sh rw' rd) (St.ac0 hap hl60 hCl hI.sh rw' rd) _ _ _ _ _ _ _ _ _ _ _ _ _ _ _ _ _ _ _ _ _ _ _ _ _ _ _ _ _ _ _ _ _ _ _ _ _ _ _ _ _ _ _ _ _ _ (Ds.map St.mark)) ?_;rintro _ _ _ ⟨rfl,u37,u38,u39,u40,u41,u42,u43,v3,W3,hrow,hbel,rfl,rfl⟩;dsimp only;obtain⟨w,hw⟩:∃w,w=((W3.alloc (.cells #[v3] 58)).alloc (.cells #[.int .i64 dk] 3)).alloc (.cells #[.int .i64 ((p.length+k+1:Nat):Int)] 3):=⟨_,rfl⟩;rw[<-hw];gi_wp2;obtain⟨g,cap,rfl,hg0,hg1,hsh⟩:=hrow.sha (by simp);have sz:w.heap.size=W3.heap.size+3:=by rw[hw];simp
   have bw:Below W3.heap.size W3 w:=by rw[hw];exact(((S0 _ W3).alloc (IN _) _).alloc (by simp) _).alloc (by simp;omega) _
   have bwr:Below wr.heap.size wr w:=hbel.trans (bw.mono hbel.size);obtain⟨n1,n2,n3⟩:=St.boxes W3 (.slice (some ⟨g,0,none⟩) (p++[lo+(j:Int)]).length cap) (.int .i64 dk) (.int .i64 ((p.length+k+1:Nat):Int)) 58 3 3;rw[<-hw]at n1 n2 n3;have hIw:St.Inv J B0 l C0 Bp Bw Bd a p c ((p.length+k+1:Nat):Int) dk Ds xs C w:=hI.own hJ (St.om bwr) (λr e=>by cases e);refine qL (α:=AT×List Int) (β:=List Int) (enc:=UQ) (Seen:=λB x W=>St.Row B x.1 x.2 W) (val:=Vv) (out:=St.kQ dk k (lo+(j:Int)+1) (p++[lo+(j:Int)])) (w0:=w) (D:=St.Own W3.heap.size (W3.heap.size+2) (W3.heap.size+1) (some ⟨g,0,none⟩))
    hro (λh=>absurd h (by simp[hd])) (gf:=301) rfl h32 (λ_ _=>rfl)
    (ih (n-1) (lo+(j:Int)+1) dk (p++[lo+(j:Int)]) (some ⟨g,0,none⟩) cap W3.heap.size (W3.heap.size+2) (W3.heap.size+1) w (by simp) (by simp;omega) (by omega) hdk0 hdk (by omega) (by simp) (λ_=>by simp) n1 (by simpa[Nat.add_right_comm]using n3) n2 (hsh.below bw))
    (S0 _ w) ?hseen
    (λys C X=>St.Inv J B0 l C0 Bp Bw Bd a p c ((p.length+k+1:Nat):Int) dk Ds (xs++ys) C X) (λC ys X Y row h hg hr=>?own) C ?hc (by rw[List.append_nil];exact hIw) (λx=>{tmps:=#[t0,.pointer (some ⟨Bp,0,none⟩),.pointer (some ⟨Bw,0,none⟩),.pointer (some ⟨Bd,0,none⟩),.pointer (some ⟨B0,0,none⟩),t5,.int .i64 (lo+(j:Int)),x.1,t8,t9,t10,t11,t12,t13,t14,t15,t16,t17,t18,t19,t20,t21,t22,t23,t24,t25,t26,.int .i64 (lo+(j:Int)),.int .i64 dk,.int .i64 ((p.length:Int)+(k:Int)+1),.slice a p.length c,.int .i64 (p.length:Int),.int .i64 ((p.length:Int)+(k:Int)+1-(p.length:Int)),.int .i64 (dk-((p.length:Int)+(k:Int)+1-(p.length:Int))),.bool true,u35,u36,u37,u38,u39,u40,u41,u42,u43,.func (.func 301) #[] #[.pointer (some ⟨W3.heap.size,0,none⟩),.pointer (some ⟨W3.heap.size+2,0,none⟩),.pointer (some ⟨W3.heap.size+1,0,none⟩)],x.1,u46,u47,u48,u49],defers:=[]}) ?assign ?body ?done
   case hc=>
    intro b hb;have h1:=(hI.old b hb).1;have h2:=hbel.size;refine⟨by omega,?_⟩;rintro(h|h|h|⟨g',e,h⟩)
    ·omega
    ·omega
    ·omega
    ·cases e;omega
   case own=>
    refine h.own hJ hg λr e=>⟨?_,λhm=>?_,(hr r e).2⟩
    ·have h1:=hIw.size;have h2:=(hr r e).1;omega
    ·have h1:=(SB.1 (hIw.marks r hm).2.2).1;have h2:=(hr r e).1;omega
   case hseen=>intro B x X b o o' hs _ ho hc;exact⟨ownsRow_putObj hs.1 o' ho hc,hs.2⟩
   case assign=>intro l' x X K hK;simp only[Xv,Xe,Xf,WX,WJ,XO,V5,Xg,Xh];gi_wp2;exact hK
   case body=>
    intro l' ys C1 x X hIx hC1 hsz hseen hlen;dsimp only;have ry1:=hIx.cy;have hs1:=hIx.size
    obtain⟨fn,tm,asl',bo,hyr,hR⟩:=hY (xs++ys) C1 x X hIx.j (λk hk=>(hIx.old k hk).1) (X9 hs1) (hseen.mono (by have:=hI.size;have:=bwr.size;omega)) (by
     have h1:xs.length=(St.part dk k lo p j).length:=by rw[<-hxs,List.length_map]
     have h2:=St.Ss dk k lo p (j+1) ((dk-(k+1:Nat)-lo+1).toNat-(j+1));rw[show j+1+((dk-(k+1:Nat)-lo+1).toNat-(j+1))=(dk-(k+1:Nat)-lo+1).toNat by omega,<-St.wG,St.vz,IT]at h2;rw[IT,h1]
     omega)
    replace hR:=St.JV hd (m':=n-1-1-1) hR;gi_wp2;refine RoundIn.mono (F:=F.inRound l') hR ?_;clear hR;rintro e X1 ⟨rfl,C2,hj2,hc2,ht2⟩;gi_wp2;refine⟨C2,?_,hc2,ht2.size,λb o hb hnc ho=>ht2.same b o hb hnc (ho.imp id λh=>?_)⟩
    ·dsimp only;rw[<-List.append_assoc];exact hIx.turn hC0 hlt ht2 hj2 hc2
    ·have h1:=hIw.size;omega
   case done=>
    rintro D ys C1 X hD hnD hys hI1 hDx;dsimp only;gi_wp2;rw[show lo+(j:Int)+1=lo+((j+1:Nat):Int) by omega];refine⟨⟨j+1,xs++ys,C1,D::Ds,_,_,_,_,_,_,_,_,_,_,_,_,_,_,_,_,_,_,_,_,_,_,_,_,rfl,?_,?_,by omega,?_⟩,?_⟩
    ·refine Xr.2 ⟨λhm=>?_,hnd⟩;have h1:=(SB.1 (hIw.marks D hm).2.2).1;omega
    ·have h1:=hIw.size
     exact⟨hI1.j,hI1.old,hI1.size,λE hE=>by
      rcases TG.1 hE with rfl|hE
      ·exact⟨by omega,hnD,hDx⟩
      ·exact hI1.marks E hE,hI1.cp,by simpa using hI1.cw,hI1.cd,hI1.cy,hI1.sh⟩
    ·rw[Uu,hxs,hys,St.vz]
    ·simp[intOf];omega
  ·gi_wp2;refine⟨xs,C,Ds,rfl,hnd,by simpa using hI,?_⟩;rw[hxs,St.wG]
   congr 1
   omega
def Ch.Kp(n₀:Nat)(A B:SE):Prop:=Below n₀ A B
theorem Ch.OL(F:Fence)(h83:F.fn 83)(hro:F.round=none)(n:Nat)(a:Option VD)(len cap:Nat)(k:Int)(hk:1<=k)(w:SE):
  CallsIn F n SI 83 #[.slice a len cap,.int .i64 k] w λe w'=>e=.returned (.func (.func 160) #[] #[.pointer (some ⟨w.heap.size,0,none⟩),.pointer (some ⟨w.heap.size+1,0,none⟩)])/\w'=(w.alloc (.cells #[.slice a len cap] 47)).alloc (.cells #[.int .i64 k] 3):=by
 refine callsIn_of_wp Tryz.func83 rfl h83 ?_ hro;simp only[Tryz.ntmps83,Ta,SA,Tn,to,TB,S8,S9,Ti,Tc,SJ,SK];have hk1:¬k<1:=by omega
 gi_wp2;go_ret;exact⟨rfl,rfl⟩
set_option maxHeartbeats 4000000 in
theorem Ch.adR(F:Fence)(n:Nat)(h160:F.fn 160)(hro:F.round=none)(hn:1<=n)(l Bs Bn os on n₀ b off len cap:Nat)(k:Int)(hl:1<=len)(hlk:(len:Int)<=k)(hk:k<=1000)(hcap:len<=cap)(hBs:Bs<n₀)(hBn:Bn<n₀)(J:Nat->SE->Prop)(hJd:∀W,J 0 W->J 0 W.drew)
  (hY:∀W,J 0 W->YieldAt F (n-1) SI l #[.slice (some ⟨b,off,none⟩) len len] W λe W'=>e=.returned (.bool true)/\J 1 W'/\Ch.Kp n₀ W W')
  (W:SE) (hs:W.cell? ⟨Bs,os,none⟩=some (.slice (some ⟨b,off,none⟩) len cap)) (hnn:W.cell? ⟨Bn,on,none⟩=some (.int .i64 k)) (h0:J 0 W):
  CallsIn F n SI 160 #[.func (.yield l) #[] #[],.pointer (some ⟨Bs,os,none⟩),.pointer (some ⟨Bn,on,none⟩)] W λe W'=>(∃v,e=.returned v)/\J 1 W':=by
 refine callsIn_of_wp Tryz.func160 rfl h160 ?_ hro;simp only[Tryz.ntmps160,Ta,SA,Tn,to,TB,S8,S9,Ti,Tc,SJ,SK];gi_wp2
 gi_loopw [4] (λi wr=>∃r:Nat,r<=1/\i=.int .i64 ((r:Int)*k)/\J r wr/\Ch.Kp n₀ W wr)
  (λi _=>(k-intOf i).toNat)
 case atStart=>exact⟨0,by omega,by simp,h0,S0 _ _⟩
 case round=>
  obtain⟨r,hr,rfl,hJs,hnx⟩:=hrel;have hs1:wr.cell? ⟨Bs,os,none⟩=some (.slice (some ⟨b,off,none⟩) len cap):=(hnx.cell (p:=⟨Bs,os,none⟩) hBs).trans hs;have hn1:wr.cell? ⟨Bn,on,none⟩=some (.int .i64 k):=(hnx.cell (p:=⟨Bn,on,none⟩) hBn).trans hnn
  cases r with
  |zero=>
   have hz0:((0:Nat):Int)*k=0:=by simp
   rw[hz0];have hpos:(0:Int)<(len:Int):=by omega
   obtain⟨fn,tmps,assign,body,hy,hR⟩:=hY wr.drew (hJd wr hJs);have hmin:(if(len:Int)<k then(len:Int)else k)=(len:Int):=by split<;>omega
   have hmx:SI.follows .mixedOrders=true:=by kernel_rfl
   have hs2:wr.drew.cell? ⟨Bs,os,none⟩=some (.slice (some ⟨b,off,none⟩) len cap):=by simpa using hs1
   have hn2:wr.drew.cell? ⟨Bn,on,none⟩=some (.int .i64 k):=by simpa using hn1
   gi_wp2
   gi_region
   all_goals gi_wp2
   all_goals (
    refine hR.mono ?_;rintro e W3 ⟨rfl,hJ3,hk3⟩;have hs3:W3.cell? ⟨Bs,os,none⟩=some (.slice (some ⟨b,off,none⟩) len cap):=(hk3.cell (p:=⟨Bs,os,none⟩) hBs).trans hs2;have hn3:W3.cell? ⟨Bn,on,none⟩=some (.int .i64 k):=(hk3.cell (p:=⟨Bn,on,none⟩) hBn).trans hn2;gi_wp2
    go_roundw
    case rel=>exact⟨1,by omega,by simp,hJ3,(hnx.trans (S0 _ wr).drew).trans hk3⟩
    case measure=>simp[intOf];omega)
  |succ r=>
   have hr0:r=0:=by omega
   subst hr0;have hkk:((0+1:Nat):Int)*k=k:=by omega
   rw[hkk];have hnl:¬k<(len:Int):=by omega
   gi_wp2;go_end0;exact⟨⟨_,rfl⟩,hJs⟩
theorem Ch.ad7:(SI.info? 47).map (λi=>(i.zero,i.size,i.bytes))=some (some (.slice none 0 0),1,24):=by kernel_rfl
theorem Ch.aeA{base:Nat}{W:SE}(a:Option VD)(len cap:Nat)(hbase:base<=W.heap.size):
  ∃v3 W3,(Ty #[95,95] 95 #[.slice none 0 0,.slice (some ⟨W.heap.size,0,none⟩) 1 1]).run SI (W.alloc (.cells #[.slice a len cap] 47))=.ok v3 W3/\v3.oneCell'=true/\W3.ownsRow base 47 1 v3 1 [.slice a len cap]/\(W.alloc (.cells #[.slice a len cap] 47)).grownBy W3 none:=by
 obtain⟨i0,hi,hz0,hz1,hz2⟩:=info_parts Ch.ad7;obtain⟨v3,W3,hrun,r1,r2,r3⟩:=run_append_own (P:=SI) (W.alloc (.cells #[.slice a len cap] 47)) base 95 95 47 i0 (.slice none 0 0) 1 24 Tryz.underlying95 hi hz0 hz1 hz2 rfl (by decide) (.slice none 0 0) 0 [] (VC _ _ _ _) ⟨W.heap.size,0,none⟩ 1 1 [.slice a len cap] rfl
  (λj u hj=>by
   match j,hj with
   |0,hj=>injection hj with hj;subst hj;exact St.ni W _ _) (λu hu=>by simp at hu;subst hu;rfl) (by simp only[maxLen];omega) (by omega) (by simp;omega)
 refine⟨v3,W3,hrun,?_,by simpa using r1,r2⟩;rcases r1.2 with⟨e,_⟩|⟨g,cap,cur,e,_⟩<;>subst e<;>rfl
theorem Ch.jQ{W W':SE}{base k:Nat}{v:AT}{xs:List AT}(h:W.ownsRow base 47 1 v k xs)(hk:∀b:Nat,(∃cur,W.heap[b]?=some (Obj.cells cur 47 (0,0)))->W'.heap[b]?=W.heap[b]?):W'.ownsRow base 47 1 v k xs:=by obtain⟨h1,h2⟩:=h;refine⟨h1,h2.imp id ?_⟩;rintro⟨g,cap,cur,e,hg,hh,hr⟩;exact⟨g,cap,cur,e,hg,(hk g ⟨cur,hh⟩).trans hh,hr⟩
theorem Ch.mV{m:Nat}{w W:SE}{l:Nat}(o:Obj)(h:Below m w W)(hl:m<=l):Below m w (W.putObj l o):=h.trans ⟨by simp[Uq],by simp[Uq],by simp[Uq],by simp[Uq],λb hb=>SO (by omega)⟩
def Ch.I(w:SE)(sv:AT)(k:Nat)(W:SE):Prop:=(∃v,Boxed W w.heap.size 95 v/\W.ownsRow w.heap.size 47 1 v k (List.replicate k sv)/\(k=0->v=.slice none 0 0))/\Below w.heap.size w W
theorem Ch.I.yj{w:SE}{sv:AT}{k:Nat}{B:Nat}(hB:w.heap.size<B):Dd B (Ch.I w sv k):=by rintro W l o o' ⟨⟨v,h1,h2,h3⟩,h4⟩ hl ho hc;refine⟨⟨v,(SO (by omega)).trans h1,Ch.jQ h2 λb ⟨cur,hb⟩=>SO (λe=>?_),h3⟩,Ch.mV _ h4 (by omega)⟩;subst e;rw[hb]at ho;cases ho;cases hc
set_option maxHeartbeats 4000000 in
theorem Ch.HO(F:Fence)(n:Nat)(hn:5<=n)(h159:F.fn 159)(h160:F.fn 160)(hro:F.round=none)(Bs Bn os on b off len cap:Nat)(k:Int)(hl:1<=len)(hlk:(len:Int)<=k)(hk:k<=1000)(hcap:len<=cap)(w:SE)(hBs:Bs<w.heap.size)(hBn:Bn<w.heap.size)
  (hs:w.cell? ⟨Bs,os,none⟩=some (.slice (some ⟨b,off,none⟩) len cap)) (hnn:w.cell? ⟨Bn,on,none⟩=some (.int .i64 k)):
  CallsIn F n SI 159 #[.slice none 0 0,.func (.func 160) #[] #[.pointer (some ⟨Bs,os,none⟩),.pointer (some ⟨Bn,on,none⟩)]] w λe W'=>∃v,e=.returned v/\W'.ownsRow w.heap.size 47 1 v 1 [.slice (some ⟨b,off,none⟩) len len]/\Below w.heap.size w W':=by
 refine callsIn_of_wp_marks Tryz.func159 rfl h159 ?_ hro;simp only[Tryz.ntmps159,Ta,SA,Tn,to,TB,S8,S9,Ti,Tc,SJ,SK];gi_wp2;have hb1:Below w.heap.size w (w.alloc (.cells #[.slice none 0 0] 95)):=(S0 _ w).alloc (IN _) _;have hI0:Ch.I w (.slice (some ⟨b,off,none⟩) len len) 0 (w.alloc (.cells #[.slice none 0 0] 95)):=⟨⟨_,Boxed.new w 95 _,VC _ _ _ _,λ_=>rfl⟩,hb1⟩;obtain⟨A1,hA1⟩:∃A1,A1=w.alloc (.cells #[.slice none 0 0] 95):=⟨_,rfl⟩;rw[<-hA1]at hI0 hb1 ⊢;have sA:A1.heap.size=w.heap.size+1:=by rw[hA1];simp
 refine qT hro (by omega) (gf:=160) (lb:=#[.pointer (some ⟨Bs,os,none⟩),.pointer (some ⟨Bn,on,none⟩)]) rfl h160 (enters_of Tryz.func160 (by kernel_rfl) rfl) (encs:=λ_=>#[.slice (some ⟨b,off,none⟩) len len])
  (Kp:=Ch.Kp w.heap.size) (N:=1) (λl J W hW hJd hY h0=>Ch.adR F (n-1) h160 hro (by omega) l Bs Bn os on w.heap.size b off len cap k hl hlk hk hcap hBs hBn J (hJd 0) (λX hX=>hY 0 X (by omega) hX) W ((hW.cell (p:=⟨Bs,os,none⟩) (show Bs<_ by omega)).trans ((hb1.cell (p:=⟨Bs,os,none⟩) hBs).trans hs)) ((hW.cell (p:=⟨Bn,on,none⟩) (show Bn<_ by omega)).trans ((hb1.cell (p:=⟨Bn,on,none⟩) hBn).trans hnn)) h0)
  (λh k=>h.trans k) (λX l o o' hl ho h1 h2=>Ch.mV _ (S0 _ _) (by omega)) (λ_=>rfl)
  (Ch.I w (.slice (some ⟨b,off,none⟩) len len)) (λk a1 W=>a1={tmps:=#[.slice none 0 0,.func (.func 160) #[] #[.pointer (some ⟨Bs,os,none⟩),.pointer (some ⟨Bn,on,none⟩)],.pointer (some ⟨w.heap.size,0,none⟩),undef,.slice none 0 0,.slice (some ⟨b,off,none⟩) len len,.func (.func 160) #[] #[.pointer (some ⟨Bs,os,none⟩),.pointer (some ⟨Bn,on,none⟩)],.slice (some ⟨b,off,none⟩) len len,undef,undef,undef,undef,undef],defers:=[]}/\Ch.I w (.slice (some ⟨b,off,none⟩) len len) k W)
  (λk=>Ch.I.yj (by omega)) (λk a1 X l o o' h hl ho hc=>⟨h.1,Ch.I.yj (B:=A1.heap.size) (by omega) X l o o' h.2 hl ho hc⟩) (λk X h=>?hid) (λo1 o2=>?start) ?assign ?body ?done
 case hid=>obtain⟨⟨v,h1,h2,h3⟩,h4⟩:=h;exact⟨⟨v,h1,Ch.jQ h2 λ_ _=>rfl,h3⟩,h4.trans (S0 _ X).drew⟩
 case start=>obtain⟨⟨v,h1,h2,h3⟩,h4⟩:=hI0;exact⟨⟨v,(h1.alloc o1).alloc o2,by rw[h3 rfl];exact VC _ _ _ _,h3⟩,h4.trans (((S0 A1.heap.size A1).alloc (IN _) o1).alloc (by simp) o2 |>.mono (by omega))⟩
 case assign=>rintro l p X hp hI;simp only[Xv,Xe,Xf,WX,WJ,XO,V5,Xg,Xh];gi_wp2;exact⟨KeepsOthers.refl _,S0 _ _,trivial,hI⟩
 case body=>
  rintro l p a1 X hp ⟨rfl,⟨⟨v,h1,h2,h3⟩,h4⟩⟩;have hp0:p=0:=by omega
  subst hp0;obtain rfl:=h3 rfl;have hw:=h4.size;have c1:=h1.cell;obtain⟨v3,W3,hrun,hone,hrow,hgr⟩:=Ch.aeA (base:=w.heap.size) (W:=X) (some ⟨b,off,none⟩) len len hw;obtain⟨g3,cp3,rfl⟩:=ownsRow_succ hrow;obtain⟨q1,q2,q3,q4,q5⟩:=Boxed.appended h1 (by decide) (VC X w.heap.size 47 1) hw (IN _) hrow hgr;have c3:=q1.cell;have f3:=q1.frozen;gi_wp2;exact⟨q5,⟨_,q2,q3,λh=>by omega⟩,h4.trans q5⟩
 case done=>rintro D X hD ⟨⟨v,h1,h2,h3⟩,h4⟩ hm;dsimp only;have c1:=h1.cell;obtain⟨g,cp,rfl⟩:=ownsRow_succ h2;gi_wp2;refine⟨by simp,.inl ⟨_,_,rfl,run_takeDeferred hm,_,results_tmp rfl _ _ _,_,rfl,?_,Ch.mV _ h4 (by omega)⟩⟩;refine Ch.jQ h2 λb ⟨cur,hb⟩=>SO (λe=>?_);subst e;rw[hm]at hb;cases hb
theorem Ch.collect_in(F:Fence)(n:Nat)(hn:6<=n)(h82:F.fn 82)(h159:F.fn 159)(h160:F.fn 160)(hro:F.round=none)(Bs Bn os on b off len cap:Nat)(k:Int)(hl:1<=len)(hlk:(len:Int)<=k)(hk:k<=1000)(hcap:len<=cap)(w:SE)(hBs:Bs<w.heap.size)(hBn:Bn<w.heap.size)
  (hs:w.cell? ⟨Bs,os,none⟩=some (.slice (some ⟨b,off,none⟩) len cap)) (hnn:w.cell? ⟨Bn,on,none⟩=some (.int .i64 k)):
  CallsIn F n SI 82 #[.func (.func 160) #[] #[.pointer (some ⟨Bs,os,none⟩),.pointer (some ⟨Bn,on,none⟩)]] w λe W'=>∃v,e=.returned v/\W'.ownsRow w.heap.size 47 1 v 1 [.slice (some ⟨b,off,none⟩) len len]/\Below w.heap.size w W':=by
 refine callsIn_of_wp Tryz.func82 rfl h82 ?_ hro;simp only[Tryz.ntmps82,Ta,SA,Tn,to,TB,S8,S9,Ti,Tc,SJ,SK];have hn1:1<=n:=by omega
 gi_wp2_with (gi_at_call 159;refine(Ch.HO F (n-1) (by omega) h159 h160 hro Bs Bn os on b off len cap k hl hlk hk hcap w hBs hBn hs hnn).mono ?_;rintro e w' ⟨v,rfl,hr,hb⟩)
 go_ret;exact⟨v,rfl,hr,hb⟩
end Go.Proofs
namespace Go
theorem Hb{l:List Nat}{p q:Nat->Bool}(h:∀x∈l,q x=true->p x=true)(hx:∃x∈l,p x=true/\q x=false):l.countP q<l.countP p:=by
 induction l with
 |nil=>obtain⟨x,hx,_⟩:=hx;cases hx
 |cons a l ih=>
  have hl:l.countP q<=l.countP p:=List.countP_mono_left λx hx=>h x (SQ _ hx);rw[List.countP_cons,List.countP_cons];obtain⟨x,hx,hp,hq⟩:=hx;rcases TG.1 hx with rfl|hx
  ·simp[hp,hq];omega
  ·have:=ih (λx hx=>h x (SQ _ hx)) ⟨x,hx,hp,hq⟩;have ha:=h a (List.mem_cons_self ..);cases hqa:q a
   ·simp only[Bool.false_eq_true,if_false];split<;>omega
   ·rw[ha hqa];simp only[if_true];omega
def qX(ops:Array Oper)(listed:Array Bool):Nat:=(Ur ops.size).countP λi=>!listed.getD i true
theorem uC{listed:Array Bool}{i:Nat}:(listed.setIfInBounds i true).getD i true=true:=by simp only[Tp,Array.getElem?_setIfInBounds,if_true];split<;>rfl
theorem Dk{F:Fence}{n:Nat}{P:SZ}{md:Region.Mode}{ops:Array Oper}{Q:Xb->VX->SE->Prop}(I:Array Bool->VX->SE->Prop)
  (hend:∀listed a w,I listed a w->Tt md ops listed=[]->Q .normal a w)
  (hstep:∀listed a w i,I listed a w->i∈Tt md ops listed->wpOpIn F n P ops Q i (λa' w'=>I (listed.setIfInBounds i true) a' w') a w):
  ∀fuel listed a w,I listed a w->qX ops listed<=fuel->wpAnyIn F n P md ops Q fuel listed a w:=by
 intro fuel
 induction fuel with
 |zero=>
  intro listed a w hI hu;have h0:Tt md ops listed=[]:=by rw[List.eq_nil_iff_forall_not_mem];intro i hi;obtain⟨h1,o,ho,_⟩:=mem_ready.1 hi;have:0<qX ops listed:=List.countP_pos_iff.2 ⟨i,XK.2 (SB.1 ho).1,by simp only[h1];rfl⟩;omega
  exact⟨h0,hend _ _ _ hI h0⟩
 |succ fuel ih=>
  intro listed a w hI hu;refine⟨λh0=>hend _ _ _ hI h0,λi hi=>?_⟩;refine wpOpIn_mono (λa' w' h'=>ih _ _ _ h' ?_) (hstep listed a w i hI hi);obtain⟨h1,o,ho,_⟩:=mem_ready.1 hi;have hi':i<ops.size:=(SB.1 ho).1
  have:qX ops (listed.setIfInBounds i true)<qX ops listed:=Hb (λx _ hx=>by
   by_cases hxi:i=x
   ·subst hxi;rw[uC]at hx;cases hx
   ·rwa [getD_set_ne _ hxi]at hx) ⟨i,XK.2 hi',by simp only[h1];rfl,by rw[uC];rfl⟩
  omega
theorem Dr(ops:Array Oper)(listed:Array Bool):qX ops listed<=ops.size:=by
 have:=List.countP_le_length (l:=Ur ops.size) (p:=λi=>!listed.getD i true)
 rwa [List.length_range]at this
theorem wT{F:Fence}{n:Nat}{P:SZ}{ops:Array Oper}{Q:Xb->VX->SE->Prop}{id:Nat}{a:VX}{w:SE}(hm:P.follows .mixedOrders=true)(I:Array Bool->VX->SE->Prop)
  (h0:I (Array.replicate ops.size false) a {w with drawn:=w.drawn+1})
  (hend:∀listed a w,I listed a w->Tt .any ops listed=[]->Q .normal a w)
  (hstep:∀listed a w i,I listed a w->i∈Tt .any ops listed->wpOpIn F n P ops Q i (λa' w'=>I (listed.setIfInBounds i true) a' w') a w):
  (Code.region id ops true).wpIn F n P Q a w:=wpIn_region_any hm (Dk I hend hstep _ _ _ _ h0 (Dr _ _))
theorem jM{md:Region.Mode}{ops:Array Oper}{listed:Array Bool}(h:Tt md ops listed=[])(hs:listed.size=ops.size){k:Nat}{o:Oper}(ho:ops[k]?=some o)(ha:∀e∈o.after,Region.binds md e=true->listed.getD e.on false=true):listed.getD k false=true:=by
 cases h1:listed.getD k true
 ·have:k∈Tt md ops listed:=mem_ready.2 ⟨h1,o,ho,ha⟩;rw[h]at this;cases this
 ·have hk:k<listed.size:=by rw[hs];exact(SB.1 ho).1
  rw[Tp,Array.getElem?_eq_getElem hk]at h1 ⊢;exact h1
end Go
