/- The machine and its runs, part 6. -/
import Derived.RowKit3
import Derived.Test.YtiibhndkoknmnaaGreatDoorB5
set_option linter.unusedVariables false
set_option linter.unusedSimpArgs false
open Bool renaming and_eq_true→No,or_eq_true→Uw,not_eq_true'→UU
open Nat renaming eq_of_beq_eq_true→SG,zero_le→Tq,lor→OF,le_refl→IN,le_trans→Tz,lt_trichotomy→Xc,lt_irrefl→Xw,lt_of_lt_of_le→TC,beq→SF
open Go.Region renaming binds→Ud,ready→Tt
open List renaming mem_cons_of_mem→SQ,mem_cons_self→Tk,getD_eq_getElem?_getD→VY,getElem?_append_left→TA
open Array renaming getElem?_eq_some_iff→SB,getElem?_eq_getElem→SM,all_eq_true_iff_forall_mem→WU,getD_eq_getD_getElem?→Tp,replicate→TS,getElem?_replicate→V9
open Go renaming Value→AT,World→SE,Program→SZ,Act→VX
namespace Go.Am
open Go Go.RowKit
theorem Bk:∀{a b:List Nat},Cs a b=true->a=b
 |[],[],_=>rfl
 |[],_::_,h=>by cases h
 |_::_,[],h=>by cases h
 |a::asl,b::bs,h=>by simp only[Cs,No]at h;rw[SG h.1,Bk h.2]
theorem tU{acc:List Nat}{i:Nat}:∀{es:List Edge},(wN acc es).testBit i=true->∃e∈es,Ud .any e=true/\(i=e.on\/(acc.getD e.on 0).testBit i=true)
 |[],h=>by simp[wN]at h
 |e::es,h=>by
  simp only[wN]at h;cases hb:Ud .any e
  ·rw[hb,cond_false]at h;obtain⟨e',h1,h2⟩:=tU h;exact⟨e',SQ _ h1,h2⟩
  ·rw[hb,cond_true,gv,gv,gx,Uw,Uw]at h;rcases h with(h|h)|h
   ·exact⟨e,Tk ..,hb,.inl (of_decide_eq_true h).symm⟩
   ·exact⟨e,Tk ..,hb,.inr h⟩
   ·obtain⟨e',h1,h2⟩:=tU h;exact⟨e',SQ _ h1,h2⟩
theorem Bu(acc:List Nat)(o:Oper)(os:List Oper):Fq acc (o::os)=Fq (acc++[wN acc o.after.toList]) os:=by simp only[Fq,gX]
theorem zR:∀(os:List Oper) (acc:List Nat) (j:Nat),j<acc.length->(Fq acc os).getD j 0=acc.getD j 0
 |[],acc,j,_=>rfl
 |o::os,acc,j,h=>by rw[Bu,zR os _ j (by simp;omega)];simp only[VY];rw[TA h]
theorem Bt:∀(os:List Oper) (acc:List Nat) (j i:Nat) (o:Oper),acc.length<=j->os[j-acc.length]?=some o->(∀e∈o.after.toList,Ud .any e=true->e.on<j)->((Fq acc os).getD j 0).testBit i=true->
  ∃e∈o.after.toList,Ud .any e=true/\(i=e.on\/((Fq acc os).getD e.on 0).testBit i=true)
 |[],acc,j,i,o,h,ho,_,_=>by simp at ho
 |o'::os,acc,j,i,o,h,ho,hb,hi=>by
  rw[Bu]at hi ⊢;by_cases e:j=acc.length
  ·subst e;rw[Nat.sub_self]at ho;have ho:o'=o:=by simpa using ho
   subst ho;rw[zR os _ _ (by simp)]at hi;have hi:(wN acc o'.after.toList).testBit i=true:=by simpa using hi
   obtain⟨e,h1,h2,h3⟩:=tU hi;refine⟨e,h1,h2,?_⟩;rcases h3 with h3|h3
   ·exact .inl h3
   ·refine .inr ?_;have hlt:=hb e h1 h2;rw[zR os _ _ (by simp;omega)];simp only[VY]at h3 ⊢;rw[TA hlt];exact h3
  ·refine Bt os _ j i o (by simp;omega) ?_ hb hi;have:j-acc.length=(j-(acc.length+1))+1:=by omega
   rw[this]at ho;simpa using ho
theorem uq{ops:Array Oper}{y:Oper}{b:Nat}:∀{xs:List Oper} {i:Nat},xk ops y b xs i=true->∀(j:Nat) x,xs[j]?=some x->b.testBit (i+j)=true\/pA ops x y=true
 |[],i,_,j,x,hx=>by simp at hx
 |x'::xs,i,h,j,x,hx=>by
  simp only[xk,No,Uw]at h
  cases j with
  |zero=>
   have hx:x'=x:=by simpa using hx
   subst hx;exact h.1
  |succ j=>
   have:=uq h.2 j x (by simpa using hx)
   rwa [show i+1+j=i+(j+1) by omega]at this
theorem tz{ops:Array Oper}:∀{os:List Oper} {done:List Oper} {bs:List Nat} {k:Nat},done.length=k->rq ops done os bs k=true->∀(j:Nat) y,os[j]?=some y->
  (∀e∈y.after.toList,Ud .any e=true->e.on<k+j)/\∀(i:Nat) x,i<k+j->(done++os)[i]?=some x->(bs.getD j 0).testBit i=true\/pA ops x y=true
 |[],done,bs,k,_,_,j,y,hy=>by simp at hy
 |o::os,done,[],k,_,h,j,y,hy=>by simp[rq]at h
 |o::os,done,b::bs,k,hk,h,j,y,hy=>by
  simp only[rq,No,List.all_eq_true]at h
  cases j with
  |zero=>
   have hy:o=y:=by simpa using hy
   subst hy;refine⟨λe he hb=>?_,λi x hi hx=>?_⟩
   ·have:=h.1.1.1 e he;rw[hb]at this;simpa using this
   ·have hx:done[i]?=some x:=by rwa [TA (by omega)]at hx
    have:=uq h.1.2 i x hx;rw[Nat.zero_add]at this;simpa using this
  |succ j=>have:=tz (done:=done++[o]) (k:=k+1) (by simp[hk]) h.2 j y (by simpa using hy);rw[show k+1+j=k+(j+1) by omega]at this;refine⟨this.1,λi x hi hx=>?_⟩;have:=this.2 i x hi (by simpa using hx);simpa using this
structure Ordered(ops:Array Oper)(bs:List Nat):Prop where
 back:∀(j:Nat) o,ops[j]?=some o->∀e∈o.after.toList,Ud .any e=true->e.on<j
 tmp:∀(i j:Nat) x y,i<j->ops[i]?=some x->ops[j]?=some y->(bs.getD j 0).testBit i=true\/pA ops x y=true
 bef:∀(j i:Nat) o,ops[j]?=some o->(bs.getD j 0).testBit i=true->∃e∈o.after.toList,Ud .any e=true/\(i=e.on\/(bs.getD e.on 0).testBit i=true)
theorem Gn{ops:Array Oper}{bs:List Nat}(h:ur ops bs=true):Ordered ops bs:=by
 unfold ur at h;rw[No]at h;have e:=Bk h.1;have hs:=tz (done:=[]) (k:=0) rfl h.2;have hback:∀(j:Nat) o,ops[j]?=some o->∀e∈o.after.toList,Ud .any e=true->e.on<j:=by intro j o ho e he hb;have:=(hs j o (by simpa using ho)).1 e he hb;omega
 refine⟨hback,λi j x y hij hx hy=>?_,λj i o ho hi=>?_⟩
 ·exact(hs j y (by simpa using hy)).2 i x (by omega) (by simpa using hx)
 ·subst e;exact Bt ops.toList [] j i o (Tq _) (by simpa using ho) (hback j o ho) hi
theorem Ordered.closed{ops:Array Oper}{bs:List Nat}(h:Ordered ops bs){S:Nat->Prop}(hS:∀(j:Nat) o,ops[j]?=some o->S j->∀e∈o.after.toList,Ud .any e=true->S e.on):
  ∀(j:Nat) o,ops[j]?=some o->(∀e∈o.after.toList,Ud .any e=true->S e.on)->∀i,(bs.getD j 0).testBit i=true->S i:=by
 intro j
 induction j using Nat.strongRecOn with
 |ind j ih=>
  intro o ho he i hi;obtain⟨e,h1,h2,h3⟩:=h.bef j i o ho hi;have hlt:=h.back j o ho e h1 h2;rcases h3 with rfl|h3
  ·exact he e h1 h2
  ·have hj:j<ops.size:=(SB.1 ho).1;have ho':ops[e.on]?=some ops[e.on]:=SM (by omega);exact ih e.on hlt _ ho' (hS e.on _ ho' (he e h1 h2)) i h3
theorem vU{ops:Array Oper}{x y:Oper}(h:pA ops x y=true):(∀d,x.dst=some d->d∉looks ops y/\y.dst≠some d)/\∀d,y.dst=some d->d∉looks ops x:=by
 unfold pA at h;rw[No]at h;refine⟨λd hd=>?_,λd hd=>?_⟩
 ·have h1:=h.1;rw[hd]at h1;simp only[No]at h1;refine⟨λhm=>?_,λhy=>?_⟩
  ·have:=any_beq.2 hm;rw[this]at h1;simp at h1
  ·have h2:=h1.2;rw[hy]at h2;simp at h2
 ·have h1:=h.2;rw[hd]at h1;simp only at h1;intro hm;rw[any_beq.2 hm]at h1;simp at h1
def meet(ρ σ:Ren):Ren:=λb=>match σ b with|none=>none|some _=>ρ b
theorem lq{ρ σ:Ren}{b:Nat}{p:Place}(h:meet ρ σ b=some p):ρ b=some p/\∃q,σ b=some q:=by
 unfold meet at h;split at h
 ·cases h
 ·exact⟨h,_,‹_›⟩
theorem Ck{ρ σ:Ren}{b:Nat}{p q:Place}(h:ρ b=some p)(k:σ b=some q):meet ρ σ b=some p:=by unfold meet;rw[k];exact h
theorem VRel.meet{ρ σ:Ren}{x y:AT}(h:VRel ρ x y):∀{z:AT},VRel σ x z->VRel (meet ρ σ) x y:=by
 induction h with
 |flat h=>exact λ_=>.flat h
 |ptr h=>
  intro z k
  cases k with
  |flat k=>simp[Am.flat]at k
  |ptr k=>exact .ptr (Ck h k)
 |slice h hn hu hk hv=>
  intro z k
  cases k with
  |flat k=>simp[Am.flat]at k
  |slice k _ _ _ _=>exact .slice (Ck h k) hn hu hk hv
  |vag=>exact absurd rfl hv
 |map h=>
  intro z k
  cases k with
  |flat k=>simp[Am.flat]at k
  |map k=>exact .map (Ck h k)
 |opq=>
  intro z k
  cases k with
  |flat k=>simp[Am.flat]at k
  |opq=>exact .opq
 |vag=>
  intro z k
  cases k with
  |flat k=>simp[Am.flat]at k
  |slice k _ _ _ hv=>exact absurd rfl hv
  |vag=>exact .vag
 |func h1 _ h3 _ i1 i2=>
  intro z k
  cases k with
  |flat k=>simp[Am.flat]at k
  |func k1 k2 k3 k4=>
   refine .func h1 (λi x y hx hy=>?_) h3 (λi x y hx hy=>?_)
   ·have hi:=(SB.1 hx).1;exact i1 i x y hx hy (k2 i x _ hx (SM (k1▸hi)))
   ·have hi:=(SB.1 hx).1;exact i2 i x y hx hy (k4 i x _ hx (SM (k3▸hi)))
 |agg h1 _ ih=>
  intro z k
  cases k with
  |flat k=>simp[Am.flat]at k
  |agg k1 k2=>refine .agg h1 λi x y hx hy=>?_;have hi:=(SB.1 hx).1;exact ih i x y hx hy (k2 i x _ hx (SM (k1▸hi)))
 |tuple h1 _ ih=>
  intro z k
  cases k with
  |flat k=>simp[Am.flat]at k
  |tuple k1 k2=>refine .tuple h1 λi x y hx hy=>?_;have hi:=(SB.1 hx).1;exact ih i x y hx hy (k2 i x _ hx (SM (k1▸hi)))
theorem nA.meet{ρ σ:Ren}{w w2:SE}{B:Nat}{p q:Place}{O:Blk}(h:nA ρ w B p O)(k:nA σ w2 B q O):nA (meet ρ σ) w B p O:=by
 cases O with
 |cells c sz opn wr=>obtain⟨h1,cc,e,fz,h2,h3,h4⟩:=h;obtain⟨_,cc2,_,_,_,k3,_⟩:=k;exact⟨h1,cc,e,fz,h2,λi x hx=>let⟨y,a,b⟩:=h3 i x hx;let⟨_,_,d⟩:=k3 i x hx;⟨y,a,b.meet d⟩,h4⟩
 |map es=>obtain⟨h1,es',cl,h2,h3,h4,h5⟩:=h;obtain⟨_,es2,cl2,_,_,k4,_⟩:=k;refine⟨h1,es',cl,h2,h3,⟨h4.1,λi x y hx hy=>?_⟩,h5⟩;obtain⟨z,hz,d⟩:=k4.get hx;exact(h4.2 i x y hx hy).meet d
theorem jV.meet{ρ σ:Ren}{Γ:Ctx}{e:List AT}{t:Nat}{oy oz:Option AT}(h:jV ρ Γ e t oy)(k:jV σ Γ e t oz):jV (meet ρ σ) Γ e t oy:=by
 intro i hn;obtain⟨x,y,a,b,c⟩:=h i hn;obtain⟨x',z,a',b',c'⟩:=k i hn;rw[a]at a';injection a' with a';subst a'
 exact⟨x,y,a,b,c.meet c'⟩
section
variable{μ:Type}[AMem μ]{P:SZ}
def VT(V:Nat->Option Blk)(G:Nat->St μ)(W:Nat->Nat):Nat->Nat->Option Blk
 |0=>V
 |k+1=>upd (VT V G W k) (W k) (G (k+1)).m
def WT(W:Nat->Nat):Nat->Nat
 |0=>0
 |k+1=>OF (WT W k) (W k)
structure Setting(P:SZ)(ops:Array Oper)(nt:Nat)(bs:List Nat)(G:Nat->St μ)(R W:Nat->Nat)(F:Nat):Prop where
 ord:Ordered ops bs
 st:∀(j:Nat) o,ops[j]?=some o->SStep P ops nt o (G j) (G (j+1)) (R j) (W j)
 sub:∀j,j<ops.size->Sub (OF (R j) (W j)) F
 ap:∀i j,i<j->j<ops.size->qQ (bs.getD j 0) (R j) (W j) (i,R i,W i)
omit [AMem μ] in
theorem MP{a:VX}{dst:Option Tmp}{v:AT}{t:Nat}(h:dst≠some t):(a.put dst v).tmps[t]?=a.tmps[t]?:=by
 cases dst with
 |none=>rfl
 |some d=>have hne:d≠t:=λe=>h (by rw[e]);simp[Act.put,Array.getElem?_setIfInBounds_ne hne]
omit [AMem μ] in
theorem put_eq{a:VX}{v:AT}{t:Nat}(h:t<a.tmps.size):(a.put (some t) v).tmps[t]?=some v:=by simp[Act.put,h]
omit [AMem μ] in
theorem Rl{o:Oper}{a:VX}{w:SE}{K:VX->SE->Prop}(h:o.wp P a w K λ_ _ _=>False):∃a' w',K a' w':=by
 unfold Oper.wp Oper.upon at h;split at h
 ·exact⟨_,_,h⟩
 ·exact⟨_,_,h⟩
 ·exact⟨_,_,h⟩
 ·obtain⟨e,w',fr,hr,_⟩:=h []
  cases e with
  |returned v=>exact⟨_,_,hr⟩
  |panicked c=>exact hr.elim
  |outgrown=>obtain⟨_,_,hr⟩:=hr;exact hr.elim
 ·obtain⟨v,w',hr,_⟩:=h default [];exact⟨_,_,hr⟩
 ·exact h.elim
 ·exact h.elim
section
variable{ops:Array Oper}{nt:Nat}{D:List Deferred}{bs:List Nat}{G:Nat->St μ}{R W:Nat->Nat}{F:Nat}{ρ0:Ren}{V:Nat->Option Blk}{w0:SE}{B:Nat}
theorem Setting.step(hs:Setting P ops nt bs G R W F){j:Nat}(h:j<ops.size):SStep P ops nt ops[j] (G j) (G (j+1)) (R j) (W j):=hs.st j _ (SM h)
theorem Setting.num(hs:Setting P ops nt bs G R W F){i j:Nat}(hij:i<=j)(hj:j<=ops.size):(G i).n<=(G j).n:=by
 induction j with
 |zero=>have:i=0:=by omega
        subst this;exact IN _
 |succ j ih=>
  by_cases e:i=j+1
  ·subst e;exact IN _
  ·exact Tz (ih (by omega) (by omega)) (hs.step (j:=j) (by omega)).loc.num
theorem Setting.vt(hs:Setting P ops nt bs G R W F)(V:Nat->Option Blk):∀{k:Nat},k<=ops.size->VT V G W k=upd V (WT W k) (G k).m
 |0,_=>(qW V _).symm
 |k+1,h=>by have ih:=hs.vt V (k:=k) (by omega);show upd (VT V G W k) (W k) (G (k+1)).m=_;rw[ih];exact H6 (n1:=(G k).n) (hs.step (j:=k) (by omega)).loc
theorem Setting.agree(hs:Setting P ops nt bs G R W F)(h:iX V (G 0).m (G 0).n F):∀{k:Nat},k<=ops.size->iX (VT V G W k) (G k).m (G k).n F
 |0,_=>h
 |k+1,hk=>(hs.agree h (k:=k) (by omega)).step (hs.step (j:=k) (by omega)).loc
def Text(nt:Nat)(G:Nat->St μ)(W:Nat->Nat)(ρ0:Ren)(V:Nat->Option Blk)(w0:SE)(B k:Nat):Prop:=∃(ρk:Ren) (wk:SE) (ak:VX),ak.tmps.size=nt/\(∀t,jV ρk (G k).Γ (G k).e t ak.tmps[t]?)/\Post ρ0 V w0 B (G 0).n (G k).m (G k).n (WT W k) ρk wk/\lN ρk (G k).n
theorem Setting.text(hs:Setting P ops nt bs G R W F){a:VX}(hsz:a.tmps.size=nt)(he:gZ ρ0 (G 0).Γ (G 0).e a.tmps)(hag:iX V (G 0).m (G 0).n F)(hm:MRel ρ0 V w0 B)(hf:lN ρ0 (G 0).n):
  ∀{k:Nat},k<=ops.size->Text nt G W ρ0 V w0 B k
 |0,_=>⟨ρ0,w0,a,hsz,λt i hn=>he i t hn,Post.same hm _ _,hf⟩
 |k+1,hk=>by
  obtain⟨ρk,wk,ak,h1,h2,h3,h4⟩:=hs.text hsz he hag hm hf (k:=k) (by omega);have hst:=hs.step (j:=k) (by omega);have hvt:=hs.vt V (k:=k) (by omega);have hmk:=h3.mrel;rw[<-hvt]at hmk;have key:=hst.sim ρk (VT V G W k) wk B F ak h1 (λt _=>h2 t) (hs.sub k (by omega)) (hs.agree hag (by omega)) hmk h4
   (λa' w'=>∃v' ρ',(∀d,ops[k].dst=some d->d<nt/\jV ρ' (G (k+1)).Γ (G (k+1)).e d (some v'))/\Post ρk (VT V G W k) wk B (G k).n (G (k+1)).m (G (k+1)).n (W k) ρ' w'/\a'=ak.put ops[k].dst v') (λ_ _ _=>False)
   (λv' ρ' w' hd hp=>⟨v',ρ',hd,hp,rfl⟩)
  have ex:∃a' w' v' ρ',(∀d,ops[k].dst=some d->d<nt/\jV ρ' (G (k+1)).Γ (G (k+1)).e d (some v'))/\Post ρk (VT V G W k) wk B (G k).n (G (k+1)).m (G (k+1)).n (W k) ρ' w'/\a'=ak.put ops[k].dst v':=by
   split at key
   ·exact Rl key
   ·exact⟨_,_,key⟩
  obtain⟨a',w',v',ρ',hd,hp,rfl⟩:=ex;refine⟨ρ',w',ak.put ops[k].dst v',by rw[ri];exact h1,λt=>?_,?_,h4.next hp⟩
  ·by_cases e:ops[k].dst=some t
   ·obtain⟨hlt,ht⟩:=hd t e;rw[e,put_eq (by rw[h1];exact hlt)];exact ht
   ·rw[MP e];exact hst.kZ _ _ _ e ((h2 t).mono hp.le)
  ·rw[hvt]at hp;exact h3.trans hp hst.loc
structure Inv(ops:Array Oper)(nt:Nat)(D:List Deferred)(G:Nat->St μ)(W:Nat->Nat)(ρ0:Ren)(V:Nat->Option Blk)(w0:SE)(B:Nat)(S:Nat->Prop)(ρ:Ren)(VS:Nat->Option Blk)(w:SE)(a:VX):Prop where
 defers:a.defers=D
 size:a.tmps.size=nt
 tmp:∀k t,k<=ops.size->(∀(j:Nat) o,ops[j]?=some o->o.dst=some t->(S j↔j<k))->jV ρ (G k).Γ (G k).e t a.tmps[t]?
 view:∀k b,k<=ops.size->(∀j,j<ops.size->(W j).testBit b=true->(S j↔j<k))->VS b=VT V G W k b
 mrel:MRel ρ VS w B
 le:ρ0.le ρ
 dom:∀b p,ρ b=some p->ρ0 b=some p\/∃j,j<ops.size/\S j/\(G j).n<=b/\b<(G (j+1)).n
 below:Below B w0 w
 frame:∀k,k<w0.heap.size->(∀b p,ρ0 b=some p->(∃j,j<ops.size/\S j/\(W j).testBit b=true)->p.blk≠k)->w.heap[k]?=w0.heap[k]?
 newp:∀b p,ρ b=some p->ρ0 b=some p\/w0.heap.size<=p.blk\/∃b0 p0,ρ0 b0=some p0/\(∃j,j<ops.size/\S j/\(W j).testBit b0=true)/\p0.blk=p.blk
 wdom:∀j b,j<ops.size->S j->(W j).testBit b=true->∃p,ρ b=some p
theorem keeps(hs:Setting P ops nt bs G R W F){ρ:Ren}{t i:Nat}{oy:Option AT}(h:jV ρ (G (i+1)).Γ (G (i+1)).e t oy):∀k,i<k->k<=ops.size->(∀(j:Nat) o,i<j->j<k->ops[j]?=some o->o.dst≠some t)->jV ρ (G k).Γ (G k).e t oy:=by
 intro k
 induction k with
 |zero=>intro h1;omega
 |succ k ih=>
  intro h1 h2 h3;by_cases e:i=k
  ·subst e;exact h
  ·have hk:k<ops.size:=by omega
   exact(hs.step (j:=k) hk).kZ _ _ _ (h3 k _ (by omega) (by omega) (SM hk)) (ih (by omega) (by omega) λj o h4 h5=>h3 j o h4 (by omega))
theorem views{i b:Nat}(V:Nat->Option Blk)(G:Nat->St μ)(W:Nat->Nat):∀k,i<k->(∀j,i<j->j<k->(W j).testBit b=false)->VT V G W k b=VT V G W (i+1) b:=by
 intro k
 induction k with
 |zero=>intro h1;omega
 |succ k ih=>
  intro h1 h3;by_cases e:i=k
  ·subst e;rfl
  ·rw[<-ih (by omega) λj h4 h5=>h3 j h4 (by omega)];show upd (VT V G W k) (W k) _ b=_;unfold upd;rw[h3 k (by omega) (by omega)];simp
set_option maxHeartbeats 1000000 in
theorem Inv.step(hs:Setting P ops nt bs G R W F)(hag:iX V (G 0).m (G 0).n F)(hf0:lN ρ0 (G 0).n)(htext:∀k,k<=ops.size->Text nt G W ρ0 V w0 B k){S:Nat->Prop}(hcl:∀j,j<ops.size->S j->∀i,(bs.getD j 0).testBit i=true->S i)
  {i:Nat} {o:Oper} (ho:ops[i]?=some o) (hni:¬S i) (hready:∀j,(bs.getD i 0).testBit j=true->S j) {ρ:Ren} {VS:Nat->Option Blk} {w:SE} {a:VX} (h:Inv ops nt D G W ρ0 V w0 B S ρ VS w a)
  {K:VX->SE->Prop} {Q:Exit->VX->SE->Prop} (hK:∀v' ρ' V' w',Inv ops nt D G W ρ0 V w0 B (λj=>S j\/j=i) ρ' V' w' (a.put o.dst v')->K (a.put o.dst v') w'):
  if Region.wanted o (yielded ops a.tmps)then o.wp P a w K Q else K (a.put o.dst undef) w:=by
 have hi:i<ops.size:=(SB.1 ho).1;have hst:=hs.st i o ho;have hnum:(G i).n<=(G (i+1)).n:=hst.loc.num
 have condT:∀t∈looks ops o,∀(j:Nat) oj,ops[j]?=some oj->oj.dst=some t->(S j↔j<i):=by
  intro t ht j oj hj hd;have hj':j<ops.size:=(SB.1 hj).1;rcases Xc j i with hlt|rfl|hgt
  ·refine⟨λ_=>hlt,λ_=>?_⟩;rcases hs.ord.tmp j i oj o hlt hj ho with h1|h1
   ·exact hready j h1
   ·exact absurd ht ((vU h1).1 t hd).1
  ·exact⟨λh=>absurd h hni,λh=>absurd h (Xw _)⟩
  ·refine⟨λhSj=>?_,λh=>by omega⟩;rcases hs.ord.tmp i j o oj hgt ho hj with h1|h1
   ·exact absurd (hcl j hj' hSj i h1) hni
   ·exact absurd ht ((vU h1).2 t hd)
 have condW:∀b,(OF (R i) (W i)).testBit b=true->∀j,j<ops.size->(W j).testBit b=true->(S j↔j<i):=by
  intro b hb j hj hw;rw[gv,Uw]at hb;rcases Xc j i with hlt|rfl|hgt
  ·refine⟨λ_=>hlt,λ_=>?_⟩;rcases hs.ap j i hlt hi with h1|h1
   ·exact hready j h1
   ·have h2:=h1 b;rcases hb with hb|hb
    ·rw[h2.2 hw]at hb;cases hb
    ·have:=(h2.1 hb).2;rw[hw]at this;cases this
  ·exact⟨λh=>absurd h hni,λh=>absurd h (Xw _)⟩
  ·refine⟨λhSj=>?_,λh=>by omega⟩;rcases hs.ap i j hgt hj with h1|h1
   ·exact absurd (hcl j hj hSj i h1) hni
   ·have h2:=(h1 b).1 hw;rcases hb with hb|hb
    ·rw[h2.1]at hb;cases hb
    ·rw[h2.2]at hb;cases hb
 obtain⟨ρk,wk,ak,_,htk,hpk,hfk⟩:=htext i (by omega);have hvk:VT V G W i=upd V (WT W i) (G i).m:=hs.vt V (by omega);have hmk:=hpk.mrel;rw[<-hvk]at hmk;have hview:∀b,(OF (R i) (W i)).testBit b=true->VS b=VT V G W i b:=λb hb=>h.view i b (by omega) (condW b hb);generalize hV':(λb=>if(OF (R i) (W i)).testBit b=true then VS b else none:Nat->Option Blk)=V';have hV1:∀b,(OF (R i) (W i)).testBit b=true->V' b=VS b:=by intro b hb;rw[<-hV'];simp only;rw[if_pos hb]
 have hV2:∀b O,V' b=some O->(OF (R i) (W i)).testBit b=true/\VS b=some O:=by
  intro b O hb;rw[<-hV']at hb;simp only at hb;split at hb
  ·exact⟨‹_›,hb⟩
  ·cases hb
 have hm':MRel (meet ρ ρk) V' w B:=by refine⟨λb p O h1 h2=>?_,λb1 b2 p1 p2 O1 O2 h1 h2 h3 h4=>h.mrel.ij b1 b2 p1 p2 O1 O2 (lq h1).1 (lq h2).1 (hV2 _ _ h3).2 (hV2 _ _ h4).2,λb p h1=>h.mrel.fresh b p (lq h1).1,h.mrel.le,h.mrel.gl⟩;obtain⟨h3,q,h4⟩:=lq h1;obtain⟨h5,h6⟩:=hV2 b O h2;exact(h.mrel.blk b p O h3 h6).meet (hmk.blk b q O h4 (by rw[<-hview b h5];exact h6))
 have hag':iX V' (G i).m (G i).n (OF (R i) (W i)):=by intro b hb hb2;rw[hV1 b hb2,hview b hb2];exact hs.agree hag (by omega) b hb (hs.sub i hi b hb2)
 have hf':lN (meet ρ ρk) (G i).n:=by intro b hb;unfold meet;rw[hfk b hb]
 refine hst.sim (meet ρ ρk) V' w B (OF (R i) (W i)) a h.size (λt ht=>?_) (Sub.refl _) hag' hm' hf' K Q λv' ρ2 w' hd hp=>?_
 ·exact(h.tmp i t (by omega) (condT t ht)).meet (htk t)
 have hlow:∀b p,meet ρ ρk b=some p->b<(G i).n:=by
  intro b p hb;rcases Nat.lt_or_ge b (G i).n with h1|h1
  ·exact h1
  ·rw[hf' b h1]at hb;cases hb
 have hnone:∀b,(G i).n<=b->b<(G (i+1)).n->ρ b=none:=by
  intro b h1 h2
  cases hb:ρ b with
  |none=>rfl
  |some p=>
   rcases h.dom b p hb with h3|⟨j,h3,h4,h5,h6⟩
   ·rw[hf0 b (Tz (hs.num (Tq i) (by omega)) h1)]at h3;cases h3
   ·rcases Xc j i with hlt|rfl|hgt
    ·have:=hs.num (i:=j+1) (j:=i) (by omega) (by omega);omega
    ·exact absurd h4 hni
    ·have:=hs.num (i:=i+1) (j:=j) (by omega) (by omega);omega
 generalize hρN:(λb=>if(G i).n<=b/\b<(G (i+1)).n then ρ2 b else ρ b:Ren)=ρN;have hN1:∀b,(G i).n<=b->b<(G (i+1)).n->ρN b=ρ2 b:=by intro b h1 h2;rw[<-hρN];simp only;rw[if_pos ⟨h1,h2⟩]
 have hN2:∀b,¬((G i).n<=b/\b<(G (i+1)).n)->ρN b=ρ b:=by intro b h1;rw[<-hρN];simp only;rw[if_neg h1]
 have hle1:ρ.le ρN:=by
  intro b p hb;by_cases hr:(G i).n<=b/\b<(G (i+1)).n
  ·rw[hnone b hr.1 hr.2]at hb;cases hb
  ·rw[hN2 b hr];exact hb
 have hle2:ρ2.le ρN:=by
  intro b p hb;rcases hp.dom b p hb with h1|h1
  ·exact hle1 b p (lq h1).1
  ·rw[hN1 b h1.1 h1.2];exact hb
 have hw2:∀b,(W i).testBit b=true->∀p,ρN b=some p->ρ2 b=some p:=by
  intro b hb p hbp;by_cases hr:(G i).n<=b/\b<(G (i+1)).n
  ·rwa [hN1 b hr.1 hr.2]at hbp
  ·obtain⟨⟨q,h1⟩,_⟩:=hp.wold b hb;have:=hle2 b q h1;rw[this]at hbp;rw[h1,hbp]
 have hold:∀b,(W i).testBit b=false->∀p,ρN b=some p->ρ b=some p:=by
  intro b hb p hbp;by_cases hr:(G i).n<=b/\b<(G (i+1)).n
  ·rw[hst.loc.made b hr.1 hr.2]at hb;cases hb
  ·rwa [hN2 b hr]at hbp
 have hu1:∀b,(W i).testBit b=true->upd VS (W i) (G (i+1)).m b=upd V' (W i) (G (i+1)).m b:=by intro b hb;unfold upd;rw[hb];simp
 have hu2:∀b,(W i).testBit b=false->upd VS (W i) (G (i+1)).m b=VS b:=by intro b hb;unfold upd;rw[hb];simp
 have hwr:∀b p,meet ρ ρk b=some p->(W i).testBit b=true->ρ b=some p/\∃O,VS b=some O/\O.wr=true:=by intro b p h1 h2;obtain⟨_,h3⟩:=hp.wold b h2;obtain⟨O,h4,h5⟩:=h3 (hlow b p h1);exact⟨(lq h1).1,O,(hV2 b O h4).2,h5⟩
 have hsame:∀b p O,(W i).testBit b=false->ρ b=some p->VS b=some O->w'.heap[p.blk]?=w.heap[p.blk]?:=by intro b p O h1 h2 h3;refine hp.frame p.blk (h.mrel.fresh b p h2) λb2 p2 h4 h5=>?_;obtain⟨h6,O2,h7,h8⟩:=hwr b2 p2 h4 h5;exact h.mrel.ij b2 b p2 p O2 O h6 h2 h7 h3 (by intro e;subst e;rw[h1]at h5;cases h5) h8
 have hapart:∀b1 p1,(W i).testBit b1=true->ρ2 b1=some p1->∀b2 p2 O2,(W i).testBit b2=false->ρ b2=some p2->VS b2=some O2->p1.blk≠p2.blk:=by
  intro b1 p1 h1 h2 b2 p2 O2 h3 h4 h5;have old:∀b3 p3,meet ρ ρk b3=some p3->(W i).testBit b3=true->p3.blk≠p2.blk:=by intro b3 p3 h6 h7;obtain⟨h8,O3,h9,h10⟩:=hwr b3 p3 h6 h7;exact h.mrel.ij b3 b2 p3 p2 O3 O2 h8 h4 h9 h5 (by intro e;subst e;rw[h3]at h7;cases h7) h10
  rcases hp.newp b1 p1 h2 with h6|h6|⟨b0,p0,h6,h7,h8⟩
  ·exact old b1 p1 h6 h1
  ·have:=h.mrel.fresh b2 p2 h4;omega
  ·rw[<-h8];exact old b0 p0 h6 h7
 refine hK v' ρN (upd VS (W i) (G (i+1)).m) w' ⟨by rw[put_defers];exact h.defers,by rw[ri];exact h.size,?_,?_,⟨?_,?_,?_,?_,hp.mrel.gl⟩,Ren.le_trans h.le hle1,?_,h.below.trans hp.below,?_,?_,?_⟩
 ·
  intro k t hk hc;by_cases e:o.dst=some t
  ·obtain⟨hlt,ht⟩:=hd t e;have hik:i<k:=(hc i o ho e).1 (.inr rfl);rw[e,put_eq (by rw[h.size];exact hlt)];refine keeps hs (ht.mono hle2) k hik hk λj oj h1 h2 h3 h4=>?_
   have hSj:S j:=by
    rcases(hc j oj h3 h4).2 h2 with h5|h5
    ·exact h5
    ·omega
   rcases hs.ord.tmp i j o oj h1 ho h3 with h5|h5
   ·exact hni (hcl j (by omega) hSj i h5)
   ·exact((vU h5).1 t e).2 h4
  ·rw[MP e];refine(h.tmp k t hk λj oj h1 h2=>?_).mono hle1;have hji:j≠i:=by intro e2;subst e2;rw[ho]at h1;injection h1 with h1;subst h1;exact e h2
   rw[<-hc j oj h1 h2];exact⟨.inl,λh3=>h3.resolve_right hji⟩
 ·
  intro k b hk hc;cases hb:(W i).testBit b
  ·rw[hu2 b hb];refine h.view k b hk λj h1 h2=>?_;have hji:j≠i:=by intro e2;subst e2;rw[hb]at h2;cases h2
   rw[<-hc j h1 h2];exact⟨.inl,λh3=>h3.resolve_right hji⟩
  ·have hik:i<k:=(hc i hi hb).1 (.inr rfl);rw[views (i:=i) V G W k hik λj h1 h2=>?_]
   ·show upd VS (W i) _ b=upd (VT V G W i) (W i) _ b;unfold upd;rw[hb];simp
   ·cases hj:(W j).testBit b
    ·rfl
    ·have hSj:S j:=by
      rcases(hc j (by omega) hj).2 h2 with h5|h5
      ·exact h5
      ·omega
     rcases hs.ap i j h1 (by omega)with h5|h5
     ·exact absurd (hcl j (by omega) hSj i h5) hni
     ·have:=((h5 b).1 hj).2;rw[hb]at this;cases this
 ·
  intro b p O h1 h2;cases hb:(W i).testBit b
  ·rw[hu2 b hb]at h2;have h3:=hold b hb p h1;exact(h.mrel.blk b p O h3 h2).mono hle1 (hsame b p O hb h3 h2)
  ·rw[hu1 b hb]at h2;exact(hp.mrel.blk b p O (hw2 b hb p h1) h2).mono hle2 rfl
 ·
  intro b1 b2 p1 p2 O1 O2 h1 h2 h3 h4 hne hw;cases hb1:(W i).testBit b1
  ·rw[hu2 b1 hb1]at h3;have h5:=hold b1 hb1 p1 h1;cases hb2:(W i).testBit b2
   ·rw[hu2 b2 hb2]at h4;exact h.mrel.ij b1 b2 p1 p2 O1 O2 h5 (hold b2 hb2 p2 h2) h3 h4 hne hw
   ·exact λe=>hapart b2 p2 hb2 (hw2 b2 hb2 p2 h2) b1 p1 O1 hb1 h5 h3 e.symm
  ·rw[hu1 b1 hb1]at h3;have h5:=hw2 b1 hb1 p1 h1;cases hb2:(W i).testBit b2
   ·rw[hu2 b2 hb2]at h4;exact hapart b1 p1 hb1 h5 b2 p2 O2 hb2 (hold b2 hb2 p2 h2) h4
   ·rw[hu1 b2 hb2]at h4;exact hp.mrel.ij b1 b2 p1 p2 O1 O2 h5 (hw2 b2 hb2 p2 h2) h3 h4 hne hw
 ·intro b p h1;by_cases hr:(G i).n<=b/\b<(G (i+1)).n
  ·rw[hN1 b hr.1 hr.2]at h1;exact hp.mrel.fresh b p h1
  ·rw[hN2 b hr]at h1;exact TC (h.mrel.fresh b p h1) hp.below.size
 ·exact hp.mrel.le
 ·intro b p h1;by_cases hr:(G i).n<=b/\b<(G (i+1)).n
  ·exact .inr ⟨i,hi,.inr rfl,hr⟩
  ·rw[hN2 b hr]at h1;rcases h.dom b p h1 with h2|⟨j,h2,h3,h4⟩
   ·exact .inl h2
   ·exact .inr ⟨j,h2,.inl h3,h4⟩
 ·
  intro k hk hc;rw[hp.frame k (TC hk h.below.size) λb p h1 h2=>?_,h.frame k hk λb p h1 ⟨j,h2,h3,h4⟩=>hc b p h1 ⟨j,h2,.inl h3,h4⟩];rcases h.newp b p (lq h1).1 with h3|h3|⟨b0,p0,h3,⟨j,h4,h5,h6⟩,h7⟩
  ·exact hc b p h3 ⟨i,hi,.inr rfl,h2⟩
  ·omega
  ·rw[<-h7];exact hc b0 p0 h3 ⟨j,h4,.inl h5,h6⟩
 ·
  intro b p h1
  have old:∀b p,ρ b=some p->ρ0 b=some p\/w0.heap.size<=p.blk\/∃b0 p0,ρ0 b0=some p0/\(∃j,j<ops.size/\(S j\/j=i)/\(W j).testBit b0=true)/\p0.blk=p.blk:=by
   intro b p h1;rcases h.newp b p h1 with h3|h3|⟨b0,p0,h3,⟨j,h4,h5,h6⟩,h7⟩
   ·exact .inl h3
   ·exact .inr (.inl h3)
   ·exact .inr (.inr ⟨b0,p0,h3,⟨j,h4,.inl h5,h6⟩,h7⟩)
  by_cases hr:(G i).n<=b/\b<(G (i+1)).n
  ·rw[hN1 b hr.1 hr.2]at h1;rcases hp.newp b p h1 with h2|h2|⟨b0,p0,h2,h3,h4⟩
   ·exact old b p (lq h2).1
   ·exact .inr (.inl (Tz h.below.size h2))
   ·rcases old b0 p0 (lq h2).1 with h5|h5|⟨b1,p1,h5,h6,h7⟩
    ·exact .inr (.inr ⟨b0,p0,h5,⟨i,hi,.inr rfl,h3⟩,h4⟩)
    ·exact .inr (.inl (by omega))
    ·exact .inr (.inr ⟨b1,p1,h5,h6,h7.trans h4⟩)
  ·rw[hN2 b hr]at h1;exact old b p h1
 ·intro j b hj hSj hb;rcases hSj with hSj|rfl
  ·obtain⟨p,h1⟩:=h.wdom j b hj hSj hb;exact⟨p,hle1 b p h1⟩
  ·obtain⟨⟨p,h1⟩,_⟩:=hp.wold b hb;exact⟨p,hle2 b p h1⟩
end
end
section
variable{μ:Type}[AMem μ]{P:SZ}
theorem vy{ops:Array Oper}{listed:Array Bool}{i:Nat}:i∈Tt .any ops listed↔∃o,ops[i]?=some o/\listed.getD i true=false/\∀e∈o.after.toList,Ud .any e=true->listed.getD e.on false=true:=by
 unfold Tt;rw[List.mem_filter,List.mem_range];constructor
 ·rintro⟨hi,h⟩;rw[SM hi]at h ⊢;simp only[Option.map_some,Option.getD_some,No,UU]at h;refine⟨_,rfl,h.1,λe he hb=>?_⟩;have:=(WU.1 h.2) e (by simpa using he);rw[hb]at this;simpa using this
 ·rintro⟨o,ho,h1,h2⟩;have hi:i<ops.size:=(SB.1 ho).1;refine⟨hi,?_⟩;rw[ho];simp only[Option.map_some,Option.getD_some,No,UU];refine⟨h1,WU.2 λe he=>?_⟩;cases hb:Ud .any e
  ·rfl
  ·simp[h2 e (by simpa using he) hb]
def j4(listed:Array Bool)(j:Nat):Prop:=listed[j]?=some true
theorem zl{listed:Array Bool}{i:Nat}(hi:i<listed.size):j4 (listed.setIfInBounds i true)=λj=>j4 listed j\/j=i:=by
 funext j
 unfold j4;rw[Array.getElem?_setIfInBounds];by_cases e:i=j
 ·subst e;simp[hi]
 ·have:¬j=i:=λh=>e h.symm;simp[e,this]
section
variable{ops:Array Oper}{nt:Nat}{D:List Deferred}{bs:List Nat}{G:Nat->St μ}{R W:Nat->Nat}{F:Nat}{ρ0:Ren}{V:Nat->Option Blk}{w0:SE}{B:Nat}
theorem count_set{l:List Bool}{i:Nat}(h:l[i]?=some false):(l.set i true).count false+1=l.count false:=by
 induction l generalizing i with
 |nil=>simp at h
 |cons x l ih=>
  cases i with
  |zero=>
   have h:x=false:=by simpa using h
   subst h;simp
  |succ i=>have:=ih (i:=i) (by simpa using h);cases x<;>simp[List.count_cons]<;>omega
theorem Ha{l:List Bool}(h:l.count false=0){i:Nat}(hi:i<l.length):l[i]?=some true:=by
 rw[List.getElem?_eq_getElem hi];cases hx:l[i]
 ·have:false∈l:=hx▸List.getElem_mem hi;rw[List.count_eq_zero]at h;exact absurd this h
 ·rfl
theorem HW(hs:Setting P ops nt bs G R W F){listed:Array Bool}(hsz:listed.size=ops.size)(h:Tt .any ops listed=[]):∀j,j<ops.size->j4 listed j:=by
 intro j
 induction j using Nat.strongRecOn with
 |ind j ih=>
  intro hj;unfold j4;rw[SM (by omega)];cases hb:listed[j]'(by omega)
  ·exfalso
   have:j∈Tt .any ops listed:=by
    rw[vy];refine⟨ops[j],SM hj,?_,λe he hbi=>?_⟩
    ·rw[Tp,SM (by omega),hb];rfl
    ·have hlt:=hs.ord.back j _ (SM hj) e he hbi;have:=ih e.on hlt (by omega);unfold j4 at this;rw[Tp,this];rfl
   rw[h]at this;cases this
  ·rfl
theorem abM(hs:Setting P ops nt bs G R W F)(hag:iX V (G 0).m (G 0).n F)(hf0:lN ρ0 (G 0).n)(htext:∀k,k<=ops.size->Text nt G W ρ0 V w0 B k){Q:Exit->VX->SE->Prop}
  (hQ:∀S ρ VS w a,(∀j,j<ops.size->S j)->Inv ops nt D G W ρ0 V w0 B S ρ VS w a->Q .normal a w):
  ∀(fuel:Nat) (listed:Array Bool) (ρ:Ren) (VS:Nat->Option Blk) (w:SE) (a:VX),listed.size=ops.size->listed.toList.count false=fuel->(∀(j:Nat) o,ops[j]?=some o->j4 listed j->∀e∈o.after.toList,Ud .any e=true->j4 listed e.on)->
   Inv ops nt D G W ρ0 V w0 B (j4 listed) ρ VS w a->wpAny P .any ops Q fuel listed a w:=by
 intro fuel
 induction fuel with
 |zero=>
  intro listed ρ VS w a hsz hc hcl h;have hall:∀j,j<ops.size->j4 listed j:=by intro j hj;have:=Ha hc (i:=j) (by simpa[hsz]using hj);unfold j4;simpa using this
  refine⟨?_,hQ _ _ _ _ _ hall h⟩;rw[List.eq_nil_iff_forall_not_mem];intro i hi;obtain⟨o,ho,h1,_⟩:=vy.1 hi;have:=hall i (SB.1 ho).1;unfold j4 at this;rw[Tp,this]at h1;cases h1
 |succ fuel ih=>
  intro listed ρ VS w a hsz hc hcl h;refine⟨λhr=>hQ _ _ _ _ _ (HW hs hsz hr) h,λi hi=>?_⟩;obtain⟨o,ho,h1,h2⟩:=vy.1 hi;have hio:i<ops.size:=(SB.1 ho).1;have hil:i<listed.size:=by omega
  have hli:listed[i]?=some false:=by rw[Tp,SM hil]at h1;rw[SM hil];simpa using h1
  have hedge:∀e∈o.after.toList,Ud .any e=true->j4 listed e.on:=by
   intro e he hb;have:=h2 e he hb;unfold j4;rw[Tp]at this
   cases hx:listed[e.on]? with
   |none=>rw[hx]at this;cases this
   |some b=>rw[hx]at this;simpa using this
  have hcl2:∀j,j<ops.size->j4 listed j->∀i,(bs.getD j 0).testBit i=true->j4 listed i:=by intro j hj hl;have hoj:ops[j]?=some ops[j]:=SM hj;exact hs.ord.closed hcl j _ hoj (hcl j _ hoj hl)
  have hready:∀j,(bs.getD i 0).testBit j=true->j4 listed j:=hs.ord.closed hcl i o ho hedge
  have hstep:=Inv.step (Q:=Q) (K:=wpAny P .any ops Q fuel (listed.setIfInBounds i true)) hs hag hf0 htext hcl2 ho (by unfold j4;rw[hli];simp) hready h λv' ρ' V' w' hinv=>by
   refine ih _ ρ' V' w' _ (by simpa using hsz) ?_ ?_ (by rw[zl hil];exact hinv)
   ·have:=count_set (l:=listed.toList) (i:=i) (by simpa using hli);rw[Array.toList_setIfInBounds];omega
   ·rw[zl hil];intro j oj hj hl e he hb;rcases hl with hl|rfl
    ·exact .inl (hcl j oj hj hl e he hb)
    ·rw[ho]at hj;injection hj with hj;subst hj
     exact .inl (hedge e he hb)
  unfold wpOp;rw[ho];simp only;split
  ·rename_i hw;rw[if_pos hw]at hstep;exact .inl hstep
  ·rename_i hw;rw[if_neg hw]at hstep;exact hstep
end
theorem zB:Jm μ P:=by
 intro rec nt ops bs l Γ Γe e m n X e' m' n' r wm hcall hloc ho hchk h;obtain⟨hX,_,_,G,R,W,hG0,hGL,hWM,hst⟩:=Mf hcall hloc l ops.toList 0 [] bs Γ e m n 0 0 X e' m' n' r wm (by simp) hchk h;refine⟨hX,λ{D} ρ V w B F a hd hsz he hF hag hm hfree=>?_⟩;have hlen:0+ops.toList.length=ops.size:=by simp
 rw[hlen]at hGL hWM
 have hs:Setting P ops nt bs G R W F:=by
  refine⟨Gn ho,λj o hj=>?_,λj hj=>?_,λi j hij hj=>?_⟩
  ·have hj':j<ops.size:=(SB.1 hj).1;exact(hst j o (Tq _) (by simpa using hj') hj).1
  ·have h1:=hst j _ (Tq _) (by simpa using hj) (SM hj);exact Sub.trans (Sub.lor (Sub.trans h1.2.1 (Sub.left _ _)) (Sub.trans h1.2.2.1 (Sub.right _ _))) hF
  ·have h1:=hst j _ (Tq _) (by simpa using hj) (SM hj);exact h1.2.2.2.2 i (Tq _) hij
 have hW:∀b,wm.testBit b=(WT W ops.size).testBit b:=by
  have wt:∀k b,(WT W k).testBit b=true↔∃j,j<k/\(W j).testBit b=true:=by
   intro k b
   induction k with
   |zero=>simp[WT]
   |succ k ih=>
    show(OF (WT W k) (W k)).testBit b=true↔_;rw[gv,Uw,ih];constructor
    ·rintro(⟨j,h1,h2⟩|h1)
     ·exact⟨j,by omega,h2⟩
     ·exact⟨k,by omega,h1⟩
    ·rintro⟨j,h1,h2⟩;by_cases ej:j=k
     ·subst ej;exact .inr h2
     ·exact .inl ⟨j,by omega,h2⟩
  intro b;cases h1:wm.testBit b
  ·cases h2:(WT W ops.size).testBit b
   ·rfl
   ·obtain⟨j,h3,h4⟩:=(wt _ b).1 h2;have h5:=(hst j _ (Tq _) (by simpa using h3) (SM h3)).2.2.1 b h4;rw[h1]at h5;cases h5
  ·rcases hWM b h1 with h2|⟨j,_,h2,h3⟩
   ·simp at h2
   ·exact((wt _ b).2 ⟨j,h2,h3⟩).symm
 have hWe:wm=WT W ops.size:=Nat.eq_of_testBit_eq hW;have hag':iX V (G 0).m (G 0).n F:=by rw[hG0];exact hag
 have hf':lN ρ (G 0).n:=by rw[hG0];exact hfree
 have he':gZ ρ (G 0).Γ (G 0).e a.tmps:=by rw[hG0];exact he
 have htext:∀k,k<=ops.size->Text nt G W ρ V w B k:=λk hk=>hs.text hsz he' hag' hm hf' hk;refine abM (D:=D) hs hag' hf' htext (Q:=pf B ρ V w n m' n' wm nt _ Γe e') (λS ρ2 VS w2 a2 hall hinv=>?_) ops.size (TS ops.size false) ρ V w a (by simp) (by simp) (λj o _ hl=>?_) ?_
 ·have hvt:=hs.vt V (IN ops.size)
  have hview:VS=upd V wm m':=by
   funext b
   rw[hinv.view ops.size b (IN _) λj hj _=>⟨λ_=>hj,λ_=>hall j hj⟩,hvt,hGL,hWe]
  have hwm:∀b,wm.testBit b=true->∃j,j<ops.size/\S j/\(W j).testBit b=true:=by
   intro b hb;rcases hWM b hb with h2|⟨j,_,h2,h3⟩
   ·simp at h2
   ·exact⟨j,h2,hall j h2,h3⟩
  have hwm2:∀b,(∃j,j<ops.size/\S j/\(W j).testBit b=true)->wm.testBit b=true:=by rintro b ⟨j,h3,_,h4⟩;exact(hst j _ (Tq _) (by simpa using h3) (SM h3)).2.2.1 b h4
  refine⟨ρ2,rfl,hinv.defers,hinv.size,λi t hn=>?_,hinv.le,λb p hb=>?_,by rw[<-hview];exact hinv.mrel,hinv.below,?_,λk hk hc=>?_,λb p hb=>?_,λb hb=>?_⟩
  ·have:=hinv.tmp ops.size t (IN _) λj o hj _=>⟨λ_=>(SB.1 hj).1,λ_=>hall j (SB.1 hj).1⟩;rw[hGL]at this;exact this i hn
  ·rcases hinv.dom b p hb with h1|⟨j,h1,_,h3,h4⟩
   ·exact .inl h1
   ·refine .inr ⟨?_,?_⟩
    ·have:=hs.num (Tq j) (by omega);rw[hG0]at this;exact Tz this h3
    ·have:=hs.num (i:=j+1) (j:=ops.size) (by omega) (IN _);rw[hGL]at this;exact TC h4 this
  ·have:=hs.num (Tq ops.size) (IN _);rw[hG0,hGL]at this;exact this
  ·exact hinv.frame k hk λb p h1 h2=>hc b p h1 (hwm2 b h2)
  ·rcases hinv.newp b p hb with h1|h1|⟨b0,p0,h1,h2,h3⟩
   ·exact .inl h1
   ·exact .inr (.inl h1)
   ·exact .inr (.inr ⟨b0,p0,h1,hwm2 b0 h2,h3⟩)
  ·obtain⟨j,h1,h2,h3⟩:=hwm b hb;refine⟨hinv.wdom j b h1 h2 h3,λhn=>?_⟩;obtain⟨ρk,wk,ak,_,_,hp,_⟩:=htext ops.size (IN _);exact(hp.wold b (by rw[<-hWe];exact hb)).2 (by rw[hG0];exact hn)
 ·unfold j4 at hl;rw[V9]at hl;split at hl<;>simp at hl
 ·have hno:∀j,¬j4 (TS ops.size false) j:=by intro j hl;unfold j4 at hl;rw[V9]at hl;split at hl<;>simp at hl
  refine⟨hd,hsz,λk t hk hc=>?_,λk b hk hc=>?_,hm,ρ.le_refl,λb p h1=>.inl h1,Below.refl _ _,λ_ _ _=>rfl,λb p h1=>.inl h1,λj b _ h1=>absurd h1 (hno j)⟩
  ·cases k with
   |zero=>exact λi hn=>he' i t hn
   |succ k=>
    have h0:jV ρ (G 0).Γ (G 0).e t a.tmps[t]?:=λi hn=>he' i t hn
    have h1:jV ρ (G 1).Γ (G 1).e t a.tmps[t]?:=by
     have h2:(0:Nat)<ops.size:=by omega
     refine(hs.step h2).kZ _ _ _ (λe=>?_) h0;exact hno 0 ((hc 0 _ (SM h2) e).2 (by omega))
    exact keeps hs (i:=0) h1 (k+1) (by omega) hk λj o h2 h3 h4 h5=>hno j ((hc j o h4 h5).2 h3)
  ·have:∀k,k<=ops.size->(∀j,j<k->(W j).testBit b=false)->VT V G W k b=V b:=by
    intro k
    induction k with
    |zero=>intro _ _;rfl
    |succ k ih=>intro h1 h2;rw[<-ih (by omega) λj h3=>h2 j (by omega)];show upd (VT V G W k) (W k) _ b=_;unfold upd;rw[h2 k (by omega)];simp
   refine(this k hk λj hj=>?_).symm;cases hb:(W j).testBit b
   ·rfl
   ·exact absurd ((hc j (by omega) hb).2 hj) (hno j)
end
noncomputable def look(l:List (Nat×AFn))(f:Nat):Option AFn:=List.rec (motive:=λ_=>Option AFn) none (λp _ r=>Bool.rec (motive:=λ_=>Option AFn) r (some p.2) (SF p.1 f)) l
inductive Good(P:SZ):List (Nat×AFn)->Prop where
 |nil:Good P []
 |cons {f:Nat} {fn:Func} {af:AFn} {l:List (Nat×AFn)} (h:P.funcs[f]?=some fn) (hc:zE P fn af=true) (hl:Good P l):Good P ((f,af)::l)
theorem Good.look{P:SZ}{l:List (Nat×AFn)}(h:Good P l):∀f af,Am.look l f=some af->∃fn,P.funcs[f]?=some fn/\zE P fn af=true:=by
 induction h with
 |nil=>intro f af h;cases h
 |@cons g fn ag l h hc hl ih=>
  intro f af he;replace he:Bool.rec (motive:=λ_=>Option AFn) (Am.look l f) (some ag) (SF g f)=some af:=he;cases hb:SF g f
  ·rw[hb]at he;exact ih f af he
  ·rw[hb]at he;have he:ag=af:=by injection he
   subst he;have:=SG hb;subst this;exact⟨fn,h,hc⟩
theorem AQ(w:SE)(hg:pt w.heap.size w):MRel (λ_=>none) (λ_=>none) w w.heap.size:=⟨λb p O h=>(nomatch h),λb1 b2 p1 p2 O1 O2 h=>(nomatch h),λb p h=>(nomatch h),IN _,hg⟩
end Go.Am
