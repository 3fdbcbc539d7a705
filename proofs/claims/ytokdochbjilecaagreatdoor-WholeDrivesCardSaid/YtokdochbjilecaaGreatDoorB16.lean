/- The machine and its runs, part 16: AyQm AyQn AyQo AyRa AyRb AyRc AyRd AyRe AyRf. -/
import Derived.Test.YtokdochbjilecaaGreatDoorB15
set_option linter.unusedVariables false
set_option linter.unusedSimpArgs false
set_option linter.unusedSectionVars false
namespace Go.Am.CD
set_option maxRecDepth 100000
open Go Go.Am
variable{E:Nat->Option AFn}{Y:Nat->List Value->FM->Nat->OR FM}
variable{N pb N' tb a b n1 vb seen i0 R EN j w len n0 k t tb' mb bb gb sb sz D tm ver:Nat}{M M' m M1 M0:FM}{i A B:Ids}{p p':Pw}{vA vB vs vA':List Nat}{fA fB fl f fA':Nat->Nat}{FA FB Fa FA':Rec->Prop}{X xs dur:List Sec}{l l0:List eF}{Q:AX->List Value->FM->Nat->Nat->Prop}{svs cs:List Value}{fe:Int}{c:eF}{fv dp ev:Value}{bs:List Bnd}{es es0:List Ent}{so sw:Bool}{r:Rec}
def jl(c:eF):Nat:=c.1.blk
def kf(l:List eF)(p:Nat):Nat:=(l[p]?.map jl).getD 0
theorem El{p:Nat}(h:p<l.length):kf l p=jl l[p]:=by rw[kf,List.getElem?_eq_getElem h];rfl
def Gs(f:Nat->Nat)(i0 j:Nat):Prop:=(∀p q,p<q->q<=i0->p≠j->q≠j->f p<f q)/\∀q,j<q->q<=i0->f j<f q
def Srt(f:Nat->Nat)(i0:Nat):Prop:=∀p q,p<q->q<i0->f p<f q
theorem FT(h:Srt f i0):Gs f i0 i0:=⟨fun p q h1 h2 h3 h4=>h p q h1 (by omega),fun q h1 h2=>by omega⟩
theorem HY(h:Gs f i0 0):Srt f (i0+1):=fun p q h1 h2=>by
 by_cases hp:p=0
 ·subst hp;exact h.2 q h1 (by omega)
 ·exact h.1 p q h1 (by omega) hp (by omega)
theorem H2(h:Gs f i0 (j+1))(hj:j+1<=i0)(hf:f j<f (j+1)):Srt f (i0+1):=fun p q h1 h2=>by
 by_cases hp:p=j+1
 ·subst hp;exact h.2 q h1 (by omega)
 ·by_cases hq:q=j+1
  ·subst hq
   by_cases hpj:p=j
   ·subst hpj;exact hf
   ·have:=h.1 p j (by omega) (by omega) hp (by omega)
    omega
  ·exact h.1 p q h1 (by omega) hp hq
theorem HZ{f':Nat->Nat}(h:Gs f i0 (j+1))(hj:j+1<=i0)(hf:f (j+1)<f j)(e0:f' j=f (j+1))(e1:f' (j+1)=f j)(e2:∀p,p≠j->p≠j+1->f' p=f p):Gs f' i0 j:=by
 refine⟨fun p q h1 h2 h3 h4=>?_,fun q h1 h2=>?_⟩
 ·by_cases hp:p=j+1
  ·subst hp
   rw[e1,e2 q h4 (by omega)]
   exact h.1 j q (by omega) h2 (by omega) (by omega)
  ·by_cases hq:q=j+1
   ·subst hq
    rw[e1,e2 p h3 hp]
    exact h.1 p j (by omega) (by omega) hp (by omega)
   ·rw[e2 p h3 hp,e2 q h4 hq]
    exact h.1 p q h1 h2 hp hq
 ·rw[e0]
  by_cases hq:q=j+1
  ·subst hq;rw[e1];exact hf
  ·rw[e2 q (by omega) hq]
   exact h.2 q (by omega) h2
def oi(l:List eF)(j:Nat)(h:j+1<l.length):List eF:=(l.set (j+1) l[j]).set j l[j+1]
theorem tE:∀(l:List eF) (j:Nat) (h:j+1<l.length),(oi l j h).Perm l
 |[],j,h=>absurd h (Nat.not_lt_zero _)
 |[x],j,h=>by rw[List.length_singleton]at h;omega
 |x::y::r,0,h=>by simpa[oi]using List.Perm.swap x y r
 |x::y::r,j+1,h=>by
  have:=tE (y::r) j (by rw[List.length_cons]at h;omega)
  simpa[oi]using this
theorem GH(l:List eF)(j:Nat)(h:j+1<l.length):kf (oi l j h) j=kf l (j+1)/\kf (oi l j h) (j+1)=kf l j/\∀p,p≠j->p≠j+1->kf (oi l j h) p=kf l p:=by
 refine⟨?_,?_,fun p h1 h2=>?_⟩
 ·simp[kf,oi,List.getElem?_set,h,show j<l.length by omega]
 ·simp[kf,oi,List.getElem?_set,h,show j<l.length by omega]
 ·simp[kf,oi,List.getElem?_set,Ne.symm h1,Ne.symm h2]
theorem GL(h:Srt (kf l) l.length):l.Pairwise fun c d=>jl c<jl d:=by
 rw[List.pairwise_iff_getElem]
 intro i j hi hj hij
 have:=h i j hij hj
 rwa [El hi,El hj]at this
theorem zJ:∀{l l':List eF},l.Perm l'->(l.Pairwise fun c d=>jl c<jl d)->(l'.Pairwise fun c d=>jl c<jl d)->l=l'
 |[],l',h,_,_=>h.nil_eq
 |a::t,[],h,_,_=>by have:=h.length_eq;simp at this
 |a::t,b::t',h,h1,h2=>by
  rw[List.pairwise_cons]at h1 h2
  have hab:a=b:=by
   rcases List.mem_cons.1 (h.subset List.mem_cons_self)with e|e
   ·exact e
   ·rcases List.mem_cons.1 (h.symm.subset List.mem_cons_self)with e'|e'
    ·exact e'.symm
    ·have:=h2.1 a e
     have:=h1.1 b e'
     omega
  subst hab
  rw[zJ h.cons_inv h1.2 h2.2]
def eT(l:List eF):List Value:=l.flatMap ed
theorem iX(h:c.1.Ok):(ed c).length=12:=by
 obtain⟨d0,d1,d2,d3,d4,d5,d6,d7,hrc⟩:=iT h
 rw[ed,hrc];rfl
theorem jX:∀{l:List eF},(∀c∈l,c.1.Ok)->(eT l).length=l.length*12
 |[],_=>rfl
 |c::l,h=>by
  rw[eT,List.flatMap_cons,List.length_append,iX (h c List.mem_cons_self),List.length_cons]
  have:(List.flatMap ed l).length=l.length*12:=jX fun d hd=>h d (List.mem_cons_of_mem _ hd)
  omega
theorem si:∀{l:List eF} (j:Nat),(∀c∈l,c.1.Ok)->(eT l).drop (j*12)=eT (l.drop j)
 |l,0,_=>by simp
 |[],j+1,_=>by simp[eT]
 |c::l,j+1,h=>by
  rw[eT,List.flatMap_cons,List.drop_succ_cons,show(j+1)*12=(ed c).length+j*12 by rw[iX (h c List.mem_cons_self)];omega,<-List.drop_drop,List.drop_left]
  exact si j fun d hd=>h d (List.mem_cons_of_mem _ hd)
theorem rj(hl:∀c∈l,c.1.Ok)(h:j<l.length):lE (eT l) (j*12)=ed l[j]++eT (l.drop (j+1)):=by
 rw[jd,si j hl,List.drop_eq_getElem_cons h];rfl
theorem oR:∀{l:List eF},(∀c∈l,c.1.Ok)->∀{c:eF},c.1.Ok->∀{j:Nat},j<l.length->setCells (eT l) (j*12) (ed c)=some (eT (l.set j c))
 |[],_,c,_,j,h=>by cases h
 |d::l,hl,c,hc,0,h=>by
  have e:=iX hc
  have e':=iX (hl d List.mem_cons_self)
  rw[eh,if_pos (by rw[jX hl,e,List.length_cons];omega),e]
  show some ([]++ed c++List.drop (0*12+12) (ed d++eT l))=some (ed c++eT l)
  rw[show 0*12+12=(ed d).length by rw[e'],List.drop_left];rfl
 |d::l,hl,c,hc,j+1,h=>by
  have e:=iX hc
  have e':=iX (hl d List.mem_cons_self)
  have hj:j<l.length:=by rw[List.length_cons]at h;omega
  have ih:=oR (fun d hd=>hl d (List.mem_cons_of_mem _ hd)) hc hj
  have hl':=jX (l:=l) fun d hd=>hl d (List.mem_cons_of_mem _ hd)
  rw[eh,if_pos (by rw[hl',e];omega)]at ih
  rw[eh,if_pos (by rw[jX hl,e,List.length_cons];omega)]
  injection ih with ih
  show some (List.take ((j+1)*12) (ed d++eT l)++ed c++List.drop ((j+1)*12+(ed c).length) (ed d++eT l))=some (ed d++eT (l.set j c))
  rw[<-ih,show(j+1)*12=(ed d).length+j*12 by omega,List.take_length_add_append,Nat.add_assoc,List.drop_length_add_append,List.append_assoc,List.append_assoc]
  simp
theorem cmp81(m:FM)(n:Nat){d:eF}(hc:c.1.Ok)(hd:d.1.Ok):Pure (df PG EL Y 81 [.agg (ed c).toArray,.agg (ed d).toArray] m n) m n (.int .i64 ((c.1.blk:Int)-(d.1.blk:Int))):=by
 obtain⟨a0,a1,a2,a3,a4,a5,a6,a7,ha⟩:=iT hc
 obtain⟨b0,b1,b2,b3,b4,b5,b6,b7,hb⟩:=iT hd
 have v1:=hc.blk
 have v2:=hd.blk
 refine dz e81 rfl rfl ?_
 simp only[OT,ed,ha,hb,List.cons_append,List.nil_append]
 simp -implicitDefEqProofs (disch:=omega)only[W2,dd,Nat.testBit,Nat.reduceAdd,Nat.reduceShiftRight,Nat.reduceAnd,Nat.reduceBNe,Nat.reduceMul]
theorem H7{n:Nat}(hok:∀c∈l0,c.1.Ok)(hnd:(l0.map jl).Nodup)(hvb:vb<n)(hlen:l0.length<=6)(i0:Nat)(hi0:i0<l0.length)(ls:List eF)(x1 x3:Value)
  (hQ:∀j M w l,(Nat.testBit w vb=true\/l=ls)->l.Perm l0->Srt (kf l) (i0+1)->(∀b,b≠vb->M b=M0 b)->M vb=some (.cells (eT l) 12 true true)->(∀b,b≠vb->Nat.testBit w b=false)->Q (.exit 2) [j,x1,.int .i64 (i0:Int),x3,.slice (some ⟨vb,0,none⟩) l0.length UNK,.int .i64 0,.int .i64 (l0.length:Int),.func (.func 81) #[] #[]] M n w):
  ∀(j:Nat),j<=i0->∀(M:FM) (l:List eF) (w0:Nat),(Nat.testBit w0 vb=true\/l=ls)->l.Perm l0->Gs (kf l) i0 j->(∀b,b≠vb->M b=M0 b)->M vb=some (.cells (eT l) 12 true true)->(∀b,b≠vb->Nat.testBit w0 b=false)->
  Gv (dt PG EL Y tj [.int .i64 (j:Int),x1,.int .i64 (i0:Int),x3,.slice (some ⟨vb,0,none⟩) l0.length UNK,.int .i64 0,.int .i64 (l0.length:Int),.func (.func 81) #[] #[]] M n) fun X e m n w=>Q X e m n (Nat.lor w0 w):=by
 intro j
 induction j with
 |zero=>
  intro hj M l w0 hS hl hI hM hv hw
  refine dm (L:=tj) (b:=nC) rfl ?_
  simp only[nC]
  simp -implicitDefEqProofs (disch:=omega)only[W2,dd,Nat.testBit,Nat.reduceAdd,Nat.reduceShiftRight,Nat.reduceAnd,Nat.reduceBNe,Nat.reduceMul]
  exact hQ _ _ _ _ hS hl (HY hI) hM hv hw
 |succ j ih=>
  intro hj M l w0 hS hl hI hM hv hw
  have hll:=hl.length_eq
  have hlk:∀c∈l,c.1.Ok:=fun c hc=>hok c (hl.subset hc)
  have hbf:et n (.func (.func 81) #[] #[])=true:=rfl
  have hi1:fU 12 (j+1) (.slice (some ⟨vb,0,none⟩) l0.length UNK)=some (.pointer (some ⟨vb,(j+1)*12,none⟩)):=by rw[eY (by omega),Nat.zero_add]
  have hi2:fU 12 j (.slice (some ⟨vb,0,none⟩) l0.length UNK)=some (.pointer (some ⟨vb,j*12,none⟩)):=by rw[eY (by omega),Nat.zero_add]
  have hj1:j+1<l.length:=by omega
  have hj0:j<l.length:=by omega
  have oc:=hlk _ (List.getElem_mem hj1)
  have od:=hlk _ (List.getElem_mem hj0)
  obtain⟨a0,a1,a2,a3,a4,a5,a6,a7,ha⟩:=iT oc
  obtain⟨b0,b1,b2,b3,b4,b5,b6,b7,hb⟩:=iT od
  have g1:=rj hlk hj1
  have g2:=rj hlk hj0
  have hz:=cmp81 (Y:=Y) M n oc od
  have s1:=oR hlk od hj1
  have s2:=oR (l:=l.set (j+1) l[j]) (fun c hc=>by
   rcases List.mem_or_eq_of_mem_set hc with h|rfl
   ·exact hlk c h
   ·exact od) oc (show j<(l.set (j+1) l[j]).length by rw[List.length_set];omega)
  have fc:ed l[j+1]=[.int .i64 (l[j+1].1.kd:Int),.int .i64 (l[j+1].1.blk:Int),.int .u64 (l[j+1].1.ver:Int),.int .u8 (a0:Int),.int .u8 (a1:Int),.int .u8 (a2:Int),.int .u8 (a3:Int),.int .u8 (a4:Int),.int .u8 (a5:Int),.int .u8 (a6:Int),.int .u8 (a7:Int),.int .i64 (l[j+1].2:Int)]:=by simp only[ed,ha,List.cons_append,List.nil_append]
  have fd:ed l[j]=[.int .i64 (l[j].1.kd:Int),.int .i64 (l[j].1.blk:Int),.int .u64 (l[j].1.ver:Int),.int .u8 (b0:Int),.int .u8 (b1:Int),.int .u8 (b2:Int),.int .u8 (b3:Int),.int .u8 (b4:Int),.int .u8 (b5:Int),.int .u8 (b6:Int),.int .u8 (b7:Int),.int .i64 (l[j].2:Int)]:=by simp only[ed,hb,List.cons_append,List.nil_append]
  have hsw:(l.set (j+1) l[j]).set j l[j+1]=oi l j hj1:=rfl
  rw[hsw]at s2
  rw[fc]at g1 hz s2
  rw[fd]at g2 hz s1
  simp only[List.cons_append,List.nil_append]at g1 g2
  have k1:=El hj1
  have k0:=El hj0
  have v1:=oc.blk
  have v2:=od.blk
  refine dm (L:=tj) (b:=nC) rfl ?_
  simp only[nC]
  simp -implicitDefEqProofs (disch:=omega)only[W2,dd,Nat.testBit,Nat.reduceAdd,Nat.reduceShiftRight,Nat.reduceAnd,Nat.reduceBNe,Nat.reduceMul,hbf,hi1,hi2,hv,g1,g2,jw,ml,Nat.add_sub_cancel]
  refine dV hz fun r1=>?_
  by_cases hzz:jl l[j+1]<jl l[j]
  ·have hzi:(l[j+1].1.blk:Int)-(l[j].1.blk:Int)<0:=by unfold jl at hzz;omega
   simp -implicitDefEqProofs (disch:=omega)only[W2,dd,Nat.testBit,Nat.reduceAdd,Nat.reduceShiftRight,Nat.reduceAnd,Nat.reduceBNe,Nat.reduceMul,hbf,hi1,hi2,hv,g1,g2,s1,s2,Nat.add_sub_cancel]
   obtain⟨w1,w2,w3⟩:=GH l j hj1
   refine dM (ih (by omega) _ _ (Nat.lor w0 (Nat.lor (bit vb) (bit vb))) (.inl (by simp only[c9,dn];simp)) ((tE l j hj1).trans hl) (HZ hI hj (by rw[k1,k0];exact hzz) w1 w2 w3) (fun b hb=>by rw[dc _ _ _ _ hb,hM b hb]) (de _ _ _) (fun b hb=>by simp only[c9,hw b hb,dh hb];rfl)) fun X e m n w hq=>?_
   rw[show Nat.lor w0 (Nat.lor (Nat.lor (bit vb) (bit vb)) w)=Nat.lor (Nat.lor w0 (Nat.lor (bit vb) (bit vb))) w from(dy _ _ _).symm]
   exact hq
  ·have hzi:¬(l[j+1].1.blk:Int)-(l[j].1.blk:Int)<0:=by unfold jl at hzz;omega
   simp -implicitDefEqProofs (disch:=omega)only[W2,dd,Nat.testBit,Nat.reduceAdd,Nat.reduceShiftRight,Nat.reduceAnd,Nat.reduceBNe,Nat.reduceMul,hbf,hi1,hi2,hv,g1,g2]
   have hne:jl l[j]≠jl l[j+1]:=fun e=>by
    have hnd':(l.map jl).Nodup:=(hl.map jl).nodup_iff.2 hnd
    have:=(List.getElem?_inj (by simpa using hj0) hnd' (j:=j+1)).1 (by rw[List.getElem?_map,List.getElem?_map,List.getElem?_eq_getElem hj0,List.getElem?_eq_getElem hj1];simp[e])
    omega
   exact hQ _ _ _ _ hS hl (H2 hI hj (by rw[k1,k0];omega)) hM hv hw
theorem H6{n:Nat}(hok:∀c∈l0,c.1.Ok)(hnd:(l0.map jl).Nodup)(hvb:vb<n)(hlen:l0.length<=6)(x1:Value)
  (hQ:∀M w l,(Nat.testBit w vb=true\/l=l0)->l.Perm l0->Srt (kf l) l0.length->(∀b,b≠vb->M b=M0 b)->M vb=some (.cells (eT l) 12 true true)->(∀b,b≠vb->Nat.testBit w b=false)->Q (.exit 0) [x1,.slice (some ⟨vb,0,none⟩) l0.length UNK,.int .i64 0,.int .i64 (l0.length:Int),.func (.func 81) #[] #[]] M n w):
  ∀(d i0:Nat),i0+d=l0.length+1->1<=i0->∀(M:FM) (l:List eF) (w0:Nat),(Nat.testBit w0 vb=true\/l=l0)->l.Perm l0->Srt (kf l) (if i0<=l0.length then i0 else l0.length)->(∀b,b≠vb->M b=M0 b)->M vb=some (.cells (eT l) 12 true true)->(∀b,b≠vb->Nat.testBit w0 b=false)->
  Gv (dt PG EL Y qF [.int .i64 (i0:Int),x1,.slice (some ⟨vb,0,none⟩) l0.length UNK,.int .i64 0,.int .i64 (l0.length:Int),.func (.func 81) #[] #[]] M n) fun X e m n w=>Q X e m n (Nat.lor w0 w):=by
 intro d
 induction d with
 |zero=>
  intro i0 hi hi1 M l w0 hT hl hS hM hv hw
  refine dm (L:=qF) (b:=j9) rfl ?_
  simp only[j9]
  simp -implicitDefEqProofs (disch:=omega)only[W2,dd,Nat.testBit,Nat.reduceAdd,Nat.reduceShiftRight,Nat.reduceAnd,Nat.reduceBNe,Nat.reduceMul]
  rw[if_neg (by omega)]at hS
  exact hQ _ _ _ hT hl hS hM hv hw
 |succ d ih=>
  intro i0 hi hi1 M l w0 hT hl hS hM hv hw
  rw[if_pos (by omega)]at hS
  refine dm (L:=qF) (b:=j9) rfl ?_
  simp only[j9]
  by_cases hlt:i0<l0.length
  ·simp -implicitDefEqProofs (disch:=omega)only[W2,dd,Nat.testBit,Nat.reduceAdd,Nat.reduceShiftRight,Nat.reduceAnd,Nat.reduceBNe,Nat.reduceMul]
   refine dS ((H7 hok hnd hvb hlen i0 hlt l _ _ (fun j M w l hT2 hl hS hM hv hw2=>?_) i0 (Nat.le_refl _) M l 0 (.inr rfl) hl (FT hS) hM hv (fun b _=>Nat.zero_testBit _)).mono fun X e m' n' w hq=>by simpa only[dx]using hq)
   intro rr
   simp -implicitDefEqProofs (disch:=omega)only[W2,dd,Nat.testBit,Nat.reduceAdd,Nat.reduceShiftRight,Nat.reduceAnd,Nat.reduceBNe,Nat.reduceMul]
   refine dM (ih (i0+1) (by omega) (by omega) _ _ (Nat.lor w0 w) (by
    rw[c9]
    rcases hT2 with h|rfl
    ·exact .inl (by rw[h];simp)
    ·rcases hT with h|h
     ·exact .inl (by rw[h];rfl)
     ·exact .inr h) hl (by rw[if_pos (by omega)];exact hS) hM hv (fun b hb=>by rw[c9,hw b hb,hw2 b hb];rfl)) fun X e m n w2 hq=>?_
   rw[show Nat.lor w0 (Nat.lor w w2)=Nat.lor (Nat.lor w0 w) w2 from(dy _ _ _).symm]
   exact hq
  ·simp -implicitDefEqProofs (disch:=omega)only[W2,dd,Nat.testBit,Nat.reduceAdd,Nat.reduceShiftRight,Nat.reduceAnd,Nat.reduceBNe,Nat.reduceMul]
   obtain rfl:i0=l0.length:=by omega
   exact hQ _ _ _ hT hl hS hM hv hw
theorem iQ{P:Program}{n:Nat}{f:Nat}{fn:AFn}{args:List Value}{R:FM->Nat->Nat->Prop}(hE:E f=some fn)(ha:gx args=fn.na)(he:fn.endrs=[])(h0:∀m' n' w,R m' n' w->Nat.mod w (bit n)=0->R m n 0)(h:∀Q:AX->List Value->FM->Nat->Nat->Prop,(∀X e m' n' w,X=.norm\/X=.ret (.tuple #[])->R m' n' w->Q X e m' n' w)->Wr P E Y [] 0 (dt P E Y fn.code args m n) Q):Rt (df P E Y f args m n) fun v m' n' w=>R m' n' w:=by
 rw[gZ hE ha]
 obtain⟨X,e',m',n',r,w,hx,hX,h2⟩:=fX (gR (h (fun X _ m' n' w=>(X=.norm\/X=.ret (.tuple #[]))/\R m' n' w) fun _ _ m' n' w k1 k2=>⟨k1,k2⟩))
 rw[hx]
 have fin:∀r,Rt (eX m n (.tuple #[]) m' n' r w) fun v m' n' w=>R m' n' w:=fun r=>by
  unfold eX
  cases hc:(du (.tuple #[])&&Nat.beq (Nat.mod w (bit n)) 0)
  ·exact h2
  ·rw[cond_true,dT]
   rw[Bool.and_eq_true]at hc
   exact h0 _ _ _ h2 (Nat.eq_of_beq_eq_true hc.2)
 rcases hX with rfl|rfl
 ·have e1:rf fn m n (.ok .norm e' m' n' r w)=eX m n (.tuple #[]) m' n' (Nat.lor r 0) w:=by
   show oN m n m' n' r w (lq e' m' n' fn.endrs)=_
   rw[he];rfl
  rw[e1]
  exact fin _
 ·rw[iu]
  exact fin _
structure SoR(vb:Nat)(l0:List eF)(m:FM)(n:Nat)(m':FM)(n' w:Nat):Prop where
 n:n'=n
 same:∀b,b≠vb->m' b=m b/\Nat.testBit w b=false
 wr:Nat.testBit w vb=true\/m' vb=m vb
 srt:∃l,l.Perm l0/\Srt (kf l) l0.length/\m' vb=some (.cells (eT l) 12 true true)
theorem SoR.free{m':FM}{n n':Nat}(h:SoR vb l0 m n m' n' w)(hvb:vb<n)(hw:Nat.mod w (bit n)=0):SoR vb l0 m n m n 0:=by
 obtain⟨h1,h2,h3,l,h4,h5,h6⟩:=h
 refine⟨rfl,fun b _=>⟨rfl,Nat.zero_testBit _⟩,.inr rfl,l,h4,h5,?_⟩
 rcases h3 with h3|h3
 ·rw[dK hw vb hvb]at h3;cases h3
 ·exact h3.symm.trans h6
theorem fsort{n:Nat}(hok:∀c∈l0,c.1.Ok)(hnd:(l0.map jl).Nodup)(hvb:vb<n)(hlen:l0.length<=6)(hm:m vb=some (.cells (eT l0) 12 true true)):
  Rt (df PG EL Y 173 [.slice (some ⟨vb,0,none⟩) l0.length UNK,.int .i64 0,.int .i64 (l0.length:Int),.func (.func 81) #[] #[]] m n) fun r m' n' w=>SoR vb l0 m n m' n' w:=by
 refine iQ (args:=[.slice (some ⟨vb,0,none⟩) l0.length UNK,.int .i64 0,.int .i64 (l0.length:Int),.func (.func 81) #[] #[]]) (R:=SoR vb l0 m n) e173 rfl rfl (fun m' n' w h hw=>h.free hvb hw) fun Q hQ=>?_
 simp only[E4]
 simp -implicitDefEqProofs (disch:=omega)only[W2,dd,Nat.testBit,Nat.reduceAdd,Nat.reduceShiftRight,Nat.reduceAnd,Nat.reduceBNe,Nat.reduceMul]
 refine dS ((H6 hok hnd hvb hlen _ (fun M w l hT hl hS hM hv hw=>?_) l0.length 1 (by omega) (by omega) m l0 0 (.inr rfl) (List.Perm.refl _) (fun p q h1 h2=>by split at h2<;>omega) (fun _ _=>rfl) hm (fun b _=>Nat.zero_testBit _)).mono fun X e m' n' w hq=>by simpa only[dx]using hq)
 intro rr
 simp -implicitDefEqProofs (disch:=omega)only[W2,dd,Nat.testBit,Nat.reduceAdd,Nat.reduceShiftRight,Nat.reduceAnd,Nat.reduceBNe,Nat.reduceMul]
 refine hQ _ _ _ _ _ (.inl rfl) ⟨rfl,fun b hb=>⟨hM b hb,hw b hb⟩,?_,l,hl,hS,hv⟩
 rcases hT with h|rfl
 ·exact .inl h
 ·exact .inr (hv.trans hm.symm)
theorem fpdq{n:Nat}(hok:∀c∈l0,c.1.Ok)(hnd:(l0.map jl).Nodup)(hvb:vb<n)(hlen:l0.length<=6)(hm:m vb=some (.cells (eT l0) 12 true true))(z:Int):
  Rt (df PG EL Y 128 [.slice (some ⟨vb,0,none⟩) l0.length UNK,.int .i64 0,.int .i64 (l0.length:Int),.int .i64 z,.func (.func 81) #[] #[]] m n) fun r m' n' w=>SoR vb l0 m n m' n' w:=by
 refine iQ (args:=[.slice (some ⟨vb,0,none⟩) l0.length UNK,.int .i64 0,.int .i64 (l0.length:Int),.int .i64 z,.func (.func 81) #[] #[]]) (R:=SoR vb l0 m n) e128 rfl rfl (fun m' n' w h hw=>h.free hvb hw) fun Q hQ=>?_
 simp only[E7]
 simp -implicitDefEqProofs (disch:=omega)only[W2,dd,Nat.testBit,Nat.reduceAdd,Nat.reduceShiftRight,Nat.reduceAnd,Nat.reduceBNe,Nat.reduceMul]
 refine dS (dm (L:=zh) (b:=nJ) rfl ?_)
 simp only[nJ]
 simp -implicitDefEqProofs (disch:=omega)only[W2,dd,Nat.testBit,Nat.reduceAdd,Nat.reduceShiftRight,Nat.reduceAnd,Nat.reduceBNe,Nat.reduceMul]
 refine dw (fsort hok hnd hvb hlen hm) fun r1 m1 n1 r2 w1 hh=>?_
 simp -implicitDefEqProofs (disch:=omega)only[W2,dd,Nat.testBit,Nat.reduceAdd,Nat.reduceShiftRight,Nat.reduceAnd,Nat.reduceBNe,Nat.reduceMul]
 intro rr
 simp -implicitDefEqProofs (disch:=omega)only[W2,dd,Nat.testBit,Nat.reduceAdd,Nat.reduceShiftRight,Nat.reduceAnd,Nat.reduceBNe,Nat.reduceMul]
 exact hQ _ _ _ _ _ (.inr rfl) hh
theorem On{n vb:Nat}{m:FM}(hok:∀c∈l0,c.1.Ok)(hnd:(l0.map jl).Nodup)(hvb:vb<n)(hlen:l0.length<=6)(hm:m vb=some (.cells (eT l0) 12 true true)):
  Rt (df PG EL Y 80 [.slice (some ⟨vb,0,none⟩) l0.length UNK,.func (.func 81) #[] #[]] m n) fun r m' n' w=>SoR vb l0 m n m' n' w:=by
 refine iQ (args:=[.slice (some ⟨vb,0,none⟩) l0.length UNK,.func (.func 81) #[] #[]]) (R:=SoR vb l0 m n) e80 rfl rfl (fun m' n' w h hw=>h.free hvb hw) fun Q hQ=>?_
 obtain⟨z,hz⟩:=p8 (Y:=Y) m n l0.length (by omega)
 simp only[LR]
 simp -implicitDefEqProofs (disch:=omega)only[W2,dd,Nat.testBit,Nat.reduceAdd,Nat.reduceShiftRight,Nat.reduceAnd,Nat.reduceBNe,Nat.reduceMul,kI (x:=l0.length) (by omega)]
 refine di hz fun r1=>?_
 simp -implicitDefEqProofs (disch:=omega)only[W2,dd,Nat.testBit,Nat.reduceAdd,Nat.reduceShiftRight,Nat.reduceAnd,Nat.reduceBNe,Nat.reduceMul]
 refine dw (fpdq hok hnd hvb hlen hm _) fun r1 m1 n1 r2 w1 hh=>?_
 simp -implicitDefEqProofs (disch:=omega)only[W2,dd,Nat.testBit,Nat.reduceAdd,Nat.reduceShiftRight,Nat.reduceAnd,Nat.reduceBNe,Nat.reduceMul]
 exact hQ _ _ _ _ _ (.inl rfl) hh
structure NoR(m:FM)(n:Nat)(m':FM)(n' w:Nat):Prop where
 n:n'=n
 same:∀b,m' b=m b
 mask:∀b,Nat.testBit w b=false
theorem NoR.refl(m:FM)(n:Nat):NoR m n m n 0:=⟨rfl,fun _=>rfl,fun b=>Nat.zero_testBit b⟩
theorem Oo(m:FM)(n:Nat):Rt (df PG EL Y 80 [.slice none 0 0,.func (.func 81) #[] #[]] m n) fun r m' n' w=>NoR m n m' n' w:=by
 refine iQ (args:=[.slice none 0 0,.func (.func 81) #[] #[]]) (R:=NoR m n) e80 rfl rfl (fun m' n' w h hw=>.refl m n) fun Q hQ=>?_
 obtain⟨z,hz⟩:=p8 (Y:=Y) m n 0 (by omega)
 simp only[LR]
 simp -implicitDefEqProofs (disch:=omega)only[W2,dd,Nat.testBit,Nat.reduceAdd,Nat.reduceShiftRight,Nat.reduceAnd,Nat.reduceBNe,Nat.reduceMul,kI (x:=0) (by omega)]
 refine di hz fun r1=>?_
 have hp:Rt (df PG EL Y 128 [.slice none 0 0,.int .i64 0,.int .i64 0,.int .i64 (z:Int),.func (.func 81) #[] #[]] m n) fun r m' n' w=>NoR m n m' n' w:=by
  refine iQ (args:=[.slice none 0 0,.int .i64 0,.int .i64 0,.int .i64 (z:Int),.func (.func 81) #[] #[]]) (R:=NoR m n) e128 rfl rfl (fun m' n' w h hw=>.refl m n) fun Q hQ=>?_
  have hs:Rt (df PG EL Y 173 [.slice none 0 0,.int .i64 0,.int .i64 0,.func (.func 81) #[] #[]] m n) fun r m' n' w=>NoR m n m' n' w:=by
   refine iQ (args:=[.slice none 0 0,.int .i64 0,.int .i64 0,.func (.func 81) #[] #[]]) (R:=NoR m n) e173 rfl rfl (fun m' n' w h hw=>.refl m n) fun Q hQ=>?_
   simp only[E4]
   simp -implicitDefEqProofs (disch:=omega)only[W2,dd,Nat.testBit,Nat.reduceAdd,Nat.reduceShiftRight,Nat.reduceAnd,Nat.reduceBNe,Nat.reduceMul]
   refine dS (dm (L:=qF) (b:=j9) rfl ?_)
   simp only[j9]
   simp -implicitDefEqProofs (disch:=omega)only[W2,dd,Nat.testBit,Nat.reduceAdd,Nat.reduceShiftRight,Nat.reduceAnd,Nat.reduceBNe,Nat.reduceMul]
   intro rr
   simp -implicitDefEqProofs (disch:=omega)only[W2,dd,Nat.testBit,Nat.reduceAdd,Nat.reduceShiftRight,Nat.reduceAnd,Nat.reduceBNe,Nat.reduceMul]
   exact hQ _ _ _ _ _ (.inl rfl) (.refl m n)
  simp only[E7]
  simp -implicitDefEqProofs (disch:=omega)only[W2,dd,Nat.testBit,Nat.reduceAdd,Nat.reduceShiftRight,Nat.reduceAnd,Nat.reduceBNe,Nat.reduceMul]
  refine dS (dm (L:=zh) (b:=nJ) rfl ?_)
  simp only[nJ]
  simp -implicitDefEqProofs (disch:=omega)only[W2,dd,Nat.testBit,Nat.reduceAdd,Nat.reduceShiftRight,Nat.reduceAnd,Nat.reduceBNe,Nat.reduceMul]
  refine dw hs fun r1 m1 n1 r2 w1 hh=>?_
  simp -implicitDefEqProofs (disch:=omega)only[W2,dd,Nat.testBit,Nat.reduceAdd,Nat.reduceShiftRight,Nat.reduceAnd,Nat.reduceBNe,Nat.reduceMul]
  intro rr
  simp -implicitDefEqProofs (disch:=omega)only[W2,dd,Nat.testBit,Nat.reduceAdd,Nat.reduceShiftRight,Nat.reduceAnd,Nat.reduceBNe,Nat.reduceMul]
  exact hQ _ _ _ _ _ (.inr rfl) hh
 simp -implicitDefEqProofs (disch:=omega)only[W2,dd,Nat.testBit,Nat.reduceAdd,Nat.reduceShiftRight,Nat.reduceAnd,Nat.reduceBNe,Nat.reduceMul]
 refine dw hp fun r1 m1 n1 r2 w1 hh=>?_
 simp -implicitDefEqProofs (disch:=omega)only[W2,dd,Nat.testBit,Nat.reduceAdd,Nat.reduceShiftRight,Nat.reduceAnd,Nat.reduceBNe,Nat.reduceMul]
 exact hQ _ _ _ _ _ (.inl rfl) hh
theorem Nd{m:FM}{n:Nat}{bv:Value}{R:FM->Nat->Nat->Prop}(hs:Rt (df PG EL Y 80 [fv,.func (.func 81) #[] #[]] m n) fun r m' n' w=>R m' n' w)(x1 x2 x3 x4 x6 x7 x8 x9 x10 x11 x12 x13 x14:Value):
  Gv (dt PG EL Y BJ [fv,x1,x2,x3,x4,bv,x6,x7,x8,x9,x10,x11,x12,x13,x14] m n) fun X _ m' n' w=>X=.ret (.tuple #[fv,bv])/\R m' n' w:=by
 refine jf (Y:=Y) ?_
 simp only[BJ]
 simp -implicitDefEqProofs (disch:=omega)only[W2,dd,Nat.testBit,Nat.reduceAdd,Nat.reduceShiftRight,Nat.reduceAnd,Nat.reduceBNe,Nat.reduceMul]
 refine dw hs fun r1 m1 n1 r2 w1 hh=>?_
 simp -implicitDefEqProofs (disch:=omega)only[W2,dd,Nat.testBit,Nat.reduceAdd,Nat.reduceShiftRight,Nat.reduceAnd,Nat.reduceBNe,Nat.reduceMul]
 exact hh
theorem nw:∀bs:List Bnd,(dD bs).all flat=true
 |[]=>rfl
 |b::bs=>by
  have:=nw bs
  simp only[dD,List.all_cons,this];rfl
theorem AU(h:c.1.Ok):(ed c).all flat=true:=by
 obtain⟨d0,d1,d2,d3,d4,d5,d6,d7,hrc⟩:=iT h
 rw[ed,hrc];rfl
theorem sg:∀{l:List eF},(∀c∈l,c.1.Ok)->(eT l).all flat=true
 |[],_=>rfl
 |c::l,h=>by
  have:=sg (l:=l) fun d hd=>h d (List.mem_cons_of_mem _ hd)
  rw[eT]at this ⊢
  rw[List.flatMap_cons,List.all_append,AU (h c List.mem_cons_self),this];rfl
def scR(m:FM)(n:Nat)(l:List eF)(bs:List Bnd):OR FM:=
 if l=[]then .ok (.tuple #[.slice none 0 0,.slice (some ⟨n,0,none⟩) 5 5]) (AMem.put m n (some (.cells (dD bs) 4 false true))) (n+1) (Nat.pred (bit n)) (bit n)
 else .ok (.tuple #[.slice (some ⟨n+1,0,none⟩) l.length UNK,.slice (some ⟨n,0,none⟩) 5 5]) (AMem.put (AMem.put m n (some (.cells (dD bs) 4 false true))) (n+1) (some (.cells (eT l) 12 true true))) (n+2) (Nat.pred (bit n)) (Nat.lor (bit n) (bit (n+1)))
theorem Es{z:Nat}{cs:List eF}(h:Fnd X z cs):cs.length<=6:=by
 have h1:(cs.map fun x=>x.1.blk).length<=(List.range 6).length:=by
  refine List.Nodup.length_le_of_subset h.nd fun b hb=>?_
  obtain⟨c,hc,rfl⟩:=List.mem_map.1 hb
  rw[List.mem_range]
  exact(h.at_ c hc).2.2.2.blk
 simpa using h1
theorem Af(hL:ew Y){n:Nat}{A:AX}{e1:List Value}{m1:FM}{r1 w1:Nat}{cs:List eF}(h:PaR m n X A e1 m1 n1 w1 mb bb gb bs cs){ds:List eF}(hds:ds.Perm cs):
  ∃l:List eF,l.Perm cs/\(l.Pairwise fun c d=>jl c<jl d)/\Out2 Y mb m n e1 m1 n1 r1 w1 (scR m n l (cs.foldl kh bs)) (ds.map Ih):=by
 obtain⟨hA,⟨x1,x3,x6,x8,x9,x11,x12,rfl⟩,⟨lo1,lo2,lo3⟩,⟨ne1,ne2,ne3⟩,⟨hi1,hi2,hi3⟩,hsame,hmask,⟨wr1,wr2⟩,hg,hmp,hbn,⟨hbl,hbi⟩,hF⟩:=h
 have hok:∀c∈ds,c.1.Ok/\60<=c.2/\c.2<90:=fun c hc=>by
  obtain⟨a,b,d,e⟩:=hF.at_ c (hds.subset hc)
  exact⟨e,a,b⟩
 have hfew:=Es hF
 have hdl:=hds.length_eq
 obtain⟨A2,e2,m2,n2,r2,w2,fv,hfo,p1,p2,p3,p4,p5,p6,p7⟩:=xi (Y:=Y) (n0:=n1+1) (bb:=bb) (gb:=gb) (mb:=mb) (nI:=n1) (by omega) ⟨by omega,by omega⟩ ⟨by omega,by omega⟩ x1 (.int .i64 30) x3 (.map (some mb)) x6 x8 x9 x11 x12 (.int .i64 6) ds (AMem.put m1 n1 none) (n1+1) 0 [] bs (.slice none 0 0) (Nat.le_refl _) ((dc _ _ _ _ (by omega)).trans hg) ((dc _ _ _ _ (by omega)).trans hbn) (.inl ⟨rfl,rfl,rfl⟩) hok hbl (fun b hb=>by have:=(hbi b hb).2.1;omega) (by omega)
 subst p1;subst p2
 have hfl:=qf hL hfo
 have hbs:ds.foldl kh bs=cs.foldl kh bs:=hds.foldl_eq' (fun x _ y _ z=>Gq z x y) bs
 rw[hbs]at p4
 have mask2:∀w3,(∀b,b<n->Nat.testBit w3 b=false)->Nat.mod (Nat.lor w1 (Nat.lor (Nat.lor (bit n1) w2) w3)) (bit n)=0:=fun w3 h3=>fm fun b hb=>by
  simp only[c9,hmask b hb,dh (show b≠n1 by omega),p6 b (by omega) (by omega),h3 b hb];rfl
 have hwb:∀w3,Nat.testBit (Nat.lor w1 (Nat.lor (Nat.lor (bit n1) w2) w3)) bb=true:=fun w3=>by rw[c9,wr2];rfl
 rcases p3 with⟨z1,z2,rfl⟩|⟨z1,z2,b1,rfl,z3,z4,z5⟩
 ·have hd0:ds=[]:=List.length_eq_zero_iff.1 (by omega)
  subst hd0
  have hc0:cs=[]:=List.length_eq_zero_iff.1 (by simpa using hdl.symm)
  subst hc0
  obtain⟨X3,e3,m3,n3,r3,w3,hC,rfl,q1,q2,q3⟩:=fX (Nd (Y:=Y) (bv:=.slice (some ⟨bb,0,none⟩) 5 5) (Oo m2 n2) x1 (.int .i64 30) x3 (.map (some mb)) x6 (.int .i64 6) x8 x9 (.pointer (some ⟨gb,0,none⟩)) x11 x12 (.int .i64 6) (iU n1))
  refine⟨[],List.Perm.refl _,List.Pairwise.nil,_,m2,n2,r2,w2,e3,_,m3,n3,r3,w3,hfo,hC,?_⟩
  rw[scR,if_pos rfl]
  exact .one lo2 (hwb _) ((q2 bb).trans p4) (nw _) (mask2 w3 fun b _=>q3 b)
 ·simp only[Nat.zero_add,List.nil_append]at z1 z2 z5
  have hnd:(ds.map jl).Nodup:=(hds.map jl).nodup_iff.2 hF.nd
  rw[Nat.zero_add]at hfo
  obtain⟨X3,e3,m3,n3,r3,w3,hC,rfl,q1,q2,q3,l,q4,q5,q6⟩:=fX (Nd (Y:=Y) (bv:=.slice (some ⟨bb,0,none⟩) 5 5) (On (n:=n2) (vb:=b1) (m:=m2) (fun c hc=>(hok c hc).1) hnd (by omega) (by omega) z5) x1 (.int .i64 30) x3 (.map (some mb)) x6 (.int .i64 6) x8 x9 (.pointer (some ⟨gb,0,none⟩)) x11 x12 (.int .i64 6) (iU n1))
  have hlc:=q4.trans hds
  have hll:=q4.length_eq
  rw[<-hll]at q5
  have hlok:∀c∈l,c.1.Ok:=fun c hc=>(hok c (q4.subset hc)).1
  refine⟨l,hlc,GL q5,_,m2,n2,r2,w2,e3,_,m3,n3,r3,w3,hfo,hC,?_⟩
  have hb1:Nat.testBit (Nat.lor w1 (Nat.lor (Nat.lor (bit n1) w2) w3)) b1=true:=by
   have:=hfl.1.made b1 z3 z4
   simp only[c9,this];simp
  rw[scR,if_neg (fun e=>by rw[e]at hll;simp at hll;omega),hll]
  exact .two lo2 (hwb _) ((q2 bb (by omega)).1.trans p4) (nw _) (by omega) hb1 q6 (sg hlok) (by omega) (mask2 w3 fun b hb=>(q2 b (by omega)).2)
theorem FC(hL:ew Y){n:Nat}(hsb:sb<n/\m sb=some (.cells svs 1 so sw))(hsl:svs.length=30)(hS:Gr m n X svs):
  ∃(l:List eF) (bs:List Bnd),Fnd X 90 l/\bs.length=5/\(∀b∈bs,0<=b.age/\b.age<18446744073709551616)/\mw Y 40 [gV,.slice (some ⟨sb,0,none⟩) 30 UNK,.int .i64 6] m n=scR m n l bs:=by
 obtain⟨A,e1,m1,n1,r1,w1,hA,mb,bb,gb,bs,cs,h⟩:=fX (partA (Y:=Y) hsb hsl hS)
 have hn:=h.norm
 subst hn
 obtain⟨l,l1,l2,l3⟩:=Af hL h (r1:=r1) (List.Perm.refl cs)
 have hsc:vK Y [gV,.slice (some ⟨sb,0,none⟩) 30 UNK,.int .i64 6] m n (scR m n l (cs.foldl kh bs)):=by
  obtain⟨x1,x3,x6,x8,x9,x11,x12,he⟩:=h.env
  refine⟨e1,m1,n1,r1,w1,mb,fQ (miC cs),hA,rfl,by rw[he];rfl,by rw[he];rfl,h.wr.1,h.hi.1,h.mp,fun σ hσ=>?_⟩
  rw[K5]at hσ
  obtain⟨ds,hd,rfl⟩:=Hm hσ cs rfl
  obtain⟨l',l1',l2',l3'⟩:=Af hL h (r1:=r1) hd
  rw[zJ (l1.trans l1'.symm) l2 l2']
  exact l3'
 refine⟨l,cs.foldl kh bs,?_,?_,?_,G1 hsc⟩
 ·refine⟨fun c hc=>h.fnd.at_ c (l1.subset hc),(l1.map _).nodup_iff.2 h.fnd.nd,fun a r h1 h2 h3=>?_⟩
  obtain⟨c,c1,c2⟩:=h.fnd.all a r h1 h2 h3
  exact⟨c,l1.symm.subset c1,c2⟩
 ·have:∀(cs:List eF) (bs:List Bnd),(cs.foldl kh bs).length=bs.length:=by
   intro cs
   induction cs with
   |nil=>intro bs;rfl
   |cons c cs ih=>intro bs;rw[List.foldl_cons,ih,BI]
  rw[this];exact h.bi.1
 ·have key:∀(cs:List eF) (bs:List Bnd),(∀b∈bs,0<=b.age/\b.age<18446744073709551616)->∀b∈cs.foldl kh bs,0<=b.age/\b.age<18446744073709551616:=by
   intro cs
   induction cs with
   |nil=>intro bs h;exact h
   |cons c cs ih=>
    intro bs h
    rw[List.foldl_cons]
    refine ih _ fun b hb=>?_
    obtain⟨j,hj⟩:=List.mem_iff_getElem?.1 hb
    rw[kh,List.getElem?_modify]at hj
    cases hb0:bs[j]? with
    |none=>rw[hb0]at hj;cases hj
    |some b0=>
     rw[hb0]at hj
     have hj:some (if(c.2-60) / 6=j then{b0 with live:=b0.live+1}else b0)=some b:=hj
     injection hj with hj
     have:=h b0 (List.mem_of_getElem? hb0)
     rw[<-hj]
     split<;>exact this
  exact key cs bs fun b hb=>by
   obtain⟨_,_,u1,u2,_⟩:=h.bi.2 b hb
   exact⟨u1,u2⟩
theorem Rd.okE(h:Rd i pb M N seen xs)(hx:xs[a]?=some (.ent r)):r.Ok:=by
 obtain⟨md,mc,sc,pv,_,⟨raw,_,hr⟩,_⟩:=h.st
 have ha:a<raw.length:=by rw[hr.1];exact(List.getElem?_eq_some_iff.1 hx).1
 exact(hr.2 a raw[a] _ (List.getElem?_eq_getElem ha) hx).2.1
theorem I1{sz:Nat}{bytes:Nat}{v:Value}{zs:List Value}(h:SlZ sz M n0 N v len cs)(ya:Option Addr)(yc ry:Nat)(h0:n0<=N)(hsz:0<sz)(hzl:zs.length=sz)(hz:zs.all Am.one=true)(hby:0<bytes)(hl:(len+1)*bytes<=140737488355328):
  Rt (jq sz bytes M N v (.slice ya 1 yc) (shown M N sz v) (some (zs,ry))) fun v' M' N' w=>AppZ sz M n0 N (len+1) (cs++zs) v' M' N' w/\∀k,k<N->M k≠some (.cells cs sz true true)->M' k=M k:=by
 rcases h with⟨rfl,rfl,rfl⟩|⟨hp,hcl,b,rfl,hb,hbN,hM⟩
 ·rw[gJ,fF,fy]
  have hl':(0+1)*bytes<=140737488355328:=by simpa using hl
  rw[show(zs,ry).1.all Am.one=true from hz,dC hsz,dC hby,ep hl',iK (by omega)]
  exact⟨⟨rfl,rfl,.inr ⟨by omega,by simp[hzl],N,rfl,h0,by omega,de _ _ _⟩,fun b hb=>dc _ _ _ _ (by omega),fun j hj=>dE (by omega)⟩,fun k h1 h2=>dc _ _ _ _ (by omega)⟩
 ·rw[fZ hp,eS (by omega),hM,gd,Nat.beq_refl,eU,gr,fw hcl.symm]
  show Rt (jq sz bytes M N _ _ (some (cs,bit b)) _) _
  rw[fF,fy]
  rw[show(zs,ry).1.all Am.one=true from hz,dC hsz,dC hby,ep hl,iJ,eS (by omega),hM,jz]
  exact⟨⟨rfl,rfl,.inr ⟨by omega,by rw[List.length_append,hcl,hzl,Nat.add_mul,Nat.one_mul],N,rfl,h0,by omega,de _ _ _⟩,fun k hk=>by rw[dc _ _ _ _ (by omega),dc _ _ _ _ (by omega)],fun j hj=>by rw[eL];exact⟨dE (by omega),dE (by omega)⟩⟩,fun k h1 h2=>by
   have hkb:k≠b:=by rintro rfl;exact h2 hM
   rw[dc _ _ _ _ (by omega),dc _ _ _ _ hkb]⟩
def vU(M:FM)(n1 N:Nat)(X:List Sec)(svs:List Value):Prop:=∀j v,svs[j]?=some v->(v=.slice none 0 0/\∀r,X[60+j]?≠some (.ent r))\/∃r b,X[60+j]?=some (.ent r)/\r.Ok/\v=.slice (some ⟨b,0,none⟩) 37 UNK/\n1<=b/\b<N/\M b=some (.cells (n8s r.enc) 1 true true)
structure OI(i:Ids)(pb seen n1:Nat)(xs:List Sec)(M1 M:FM)(N w:Nat)(p:Pw)(sv:Value)(svs:List Value):Prop where
 rd:Rd i pb M n1 seen xs
 pw:PwR i.P M p
 ps:PwS seen p
 on:p.off=false/\p.armed=false
 le:n1<=N
 same:∀b,b<n1->b≠i.P->b≠i.D->M b=M1 b
 mask:∀b,b<n1->b≠i.P->b≠i.D->Nat.testBit w b=false
 sl:SlZ 1 M n1 N sv svs.length svs
 sec:vU M n1 N xs svs
theorem vU.mono(h:vU M n1 N X svs)(hN:N<=N')(hf:∀b r,n1<=b->b<N->M b=some (.cells (n8s r) 1 true true)->r.length=37->M' b=M b):vU M' n1 N' X svs:=fun j v hv=>by
 rcases h j v hv with h|⟨r,b,e1,e2,e3,e4,e5,e6⟩
 ·exact .inl h
 ·exact .inr ⟨r,b,e1,e2,e3,e4,by omega,(hf b _ e4 e5 e6 (Lp e2)).trans e6⟩
theorem vU.snoc(h:vU M n1 N X svs){v:Value}(hv:(v=.slice none 0 0/\∀r,X[60+svs.length]?≠some (.ent r))\/∃r b,X[60+svs.length]?=some (.ent r)/\r.Ok/\v=.slice (some ⟨b,0,none⟩) 37 UNK/\n1<=b/\b<N/\M b=some (.cells (n8s r.enc) 1 true true)):vU M n1 N X (svs++[v]):=fun j x hx=>by
 by_cases hj:j<svs.length
 ·rw[List.getElem?_append_left hj]at hx
  exact h j x hx
 ·rw[List.getElem?_append_right (by omega)]at hx
  have hj2:j=svs.length:=by
   have:=(List.getElem?_eq_some_iff.1 hx).1
   simp at this;omega
  subst hj2
  simp at hx
  subst hx
  exact hv
theorem KD(h:vU M n1 N X svs){r:List Nat}(hr:r.length=37):n8s r≠svs:=by
 rintro rfl
 cases r with
 |nil=>cases hr
 |cons x r=>
  rcases h 0 (.int .u8 (x:Int)) rfl with⟨h1,_⟩|⟨_,_,_,_,h1,_⟩<;>cases h1
theorem Hs(hU:YUp Y){R gb:Nat}{M1:FM}{ev bv tv fv:Value}(hD:i.P<n1/\i.D<n1)(hR:R<n1/\R≠i.P/\R≠i.D)(hr:M1 R=some (.cells [.pointer (some ⟨i.D,0,none⟩),.int .u64 0,ev,bv,tv,fv] 0 false true))(hgb:gb<n1/\gb≠i.P/\gb≠i.D)(hg:M1 gb=some (.cells [.int .i64 60,.int .i64 5,.int .i64 2,.int .i64 3,.int .i64 1] 0 false true))(x4 x5 x7 x8 x10 x11 x12 x13 x14:Value)
  (hQ:∀y0 y1 M N w p sv svs,svs.length=30->OI i pb seen n1 xs M1 M N w p sv svs->Q (.exit 0) [y0,y1,sv,x4,x5,.pointer (some ⟨gb,0,none⟩),x7,x8,.pointer (some ⟨R,0,none⟩),x10,x11,x12,x13,x14] M N w):
  ∀(d j:Nat),j+d=30->∀(y0 y1:Value) (M:FM) (N w0:Nat) (p:Pw) (sv:Value) (svs:List Value),svs.length=j->OI i pb seen n1 xs M1 M N w0 p sv svs->
  Gv (dt PG EL Y vG [y0,y1,sv,.int .i64 ((60+j:Nat):Int),x4,x5,.pointer (some ⟨gb,0,none⟩),x7,x8,.pointer (some ⟨R,0,none⟩),x10,x11,x12,x13,x14] M N) fun X e m n w=>Q X e m n (Nat.lor w0 w):=by
 obtain⟨hD1,hD2⟩:=hD
 obtain⟨hR1,hR2,hR3⟩:=hR
 obtain⟨hg1,hg2,hg3⟩:=hgb
 intro d
 induction d with
 |zero=>
  intro j hj y0 y1 M N w0 p sv svs hsl h
  have gM:=(h.same gb hg1 hg2 hg3).trans hg
  have hle:=h.le
  refine dm (L:=vG) (b:=qH) rfl ?_
  simp only[qH]
  obtain rfl:j=30:=by omega
  simp -implicitDefEqProofs (disch:=omega)only[W2,dd,Nat.testBit,Nat.reduceAdd,Nat.reduceShiftRight,Nat.reduceAnd,Nat.reduceBNe,Nat.reduceMul,gM]
  refine di (jE _ _) fun r1=>?_
  simp -implicitDefEqProofs (disch:=omega)only[W2,dd,Nat.testBit,Nat.reduceAdd,Nat.reduceShiftRight,Nat.reduceAnd,Nat.reduceBNe,Nat.reduceMul]
  exact hQ _ _ _ _ _ _ _ _ hsl h
 |succ d ih=>
  intro j hj y0 y1 M N w0 p sv svs hsl h
  have gM:=(h.same gb hg1 hg2 hg3).trans hg
  have rM:=(h.same R hR1 hR2 hR3).trans hr
  have hle:=h.le
  refine dm (L:=vG) (b:=qH) rfl ?_
  simp only[qH]
  simp -implicitDefEqProofs (disch:=omega)only[W2,dd,Nat.testBit,Nat.reduceAdd,Nat.reduceShiftRight,Nat.reduceAnd,Nat.reduceBNe,Nat.reduceMul,gM]
  refine di (jE _ _) fun r1=>?_
  simp -implicitDefEqProofs (disch:=omega)only[W2,dd,Nat.testBit,Nat.reduceAdd,Nat.reduceShiftRight,Nat.reduceAnd,Nat.reduceBNe,Nat.reduceMul]
  refine dw (Ez hU (h.rd.dF h.le fun _ _=>rfl) h.pw h.ps (Rb:=R) (a:=60+j) (by omega) rM (by rw[h.rd.len];omega)) fun v M2 N2 r2 w2 hh=>?_
  obtain⟨t1,t2,t3,t4,p',t5,t6,hc⟩:=hh
  have hlx:60+j<xs.length:=by rw[h.rd.len];omega
  have hgx:=List.getElem?_eq_getElem hlx
  rcases hc with⟨_,_,c3,c4,c5⟩|⟨_,_,c3⟩
  ·have hrd2:=h.rd.jT (Nat.le_refl _) (fun b hb e1 e2=>(t3 b (by omega) e1 e2).1) t4
   have same2:∀b,b<n1->b≠i.P->b≠i.D->M2 b=M1 b:=fun b hb e1 e2=>(t3 b (by omega) e1 e2).1.trans (h.same b hb e1 e2)
   have one:=h.sl.one
   have hsl2:SlZ 1 M2 n1 N2 sv svs.length svs:=h.sl.frame t2 fun b e1 e2=>(t3 b e2 (by omega) (by omega)).1
   have hsec2:vU M2 n1 N2 xs svs:=h.sec.mono t2 fun b r e1 e2 _ _=>(t3 b e2 (by omega) (by omega)).1
   have fin:∀(x:Value) (y0 y1:Value) (hx:(x=.slice none 0 0/\∀r,xs[60+svs.length]?≠some (.ent r))\/∃r b,xs[60+svs.length]?=some (.ent r)/\r.Ok/\x=.slice (some ⟨b,0,none⟩) 37 UNK/\n1<=b/\b<N2/\M2 b=some (.cells (n8s r.enc) 1 true true)) (O:Option Blk) (sv':Value) (M4:FM) (N4 w4:Nat) (ha:AppZ 1 (AMem.put M2 N2 O) n1 (N2+1) (svs.length+1) (svs++[x]) sv' M4 N4 w4) (hb:∀k,k<N2+1->(AMem.put M2 N2 O:FM) k≠some (.cells svs 1 true true)->M4 k=(AMem.put M2 N2 O:FM) k),
     Gv (dt PG EL Y vG [y0,y1,sv',.int .i64 ((60+(j+1):Nat):Int),x4,x5,.pointer (some ⟨gb,0,none⟩),x7,x8,.pointer (some ⟨R,0,none⟩),x10,x11,x12,x13,x14] M4 N4) fun X e m n w=>Q X e m n (Nat.lor (Nat.lor w0 (Nat.lor w2 (Nat.lor (bit N2) w4))) w):=fun x y0 y1 hx O sv' M4 N4 w4 ha hb=>by
    have hn4:=ha.n
    have s4:∀b,b<n1->M4 b=M2 b:=fun b hb=>(ha.low b hb).trans (dc _ _ _ _ (by omega))
    have sN:∀k,k<N2->M2 k≠some (.cells svs 1 true true)->M4 k=M2 k:=fun k h1 h2=>by
     have e:=dc M2 N2 k O (by omega)
     rw[hb k (by omega) (by rw[e];exact h2),e]
    refine ih (j+1) (by omega) y0 y1 M4 N4 (Nat.lor w0 (Nat.lor w2 (Nat.lor (bit N2) w4))) p' sv' (svs++[x]) (by simp;omega) ⟨hrd2.dF (Nat.le_refl _) s4,(s4 _ hD1).trans t5,t6,⟨c3,c4.trans h.on.2⟩,by omega,fun b h1 h2 h3=>(s4 b h1).trans (same2 b h1 h2 h3),fun b h1 h2 h3=>?_,?_,?_⟩
    ·simp only[c9,h.mask b h1 h2 h3,(t3 b (by omega) h2 h3).2,dh (show b≠N2 by omega),dK (ha.w n1 (Nat.le_refl _)) b h1];rfl
    ·have:=ha.s
     rw[List.length_append]
     exact this
    ·have h5:vU M2 n1 N2 xs (svs++[x]):=hsec2.snoc hx
     refine h5.mono (by omega) fun b r h1 h2 h3 h4=>sN b h2 ?_
     rw[h3]
     intro e
     injection e with e
     injection e with e
     exact KD hsec2 h4 e
   have app:∀x:Value,Am.one x=true->Rt (jq 1 24 (AMem.put M2 N2 (some (.cells [x] 1 false true))) (N2+1) sv (.slice (some ⟨N2,0,none⟩) 1 1) (shown (AMem.put M2 N2 (some (.cells [x] 1 false true))) (N2+1) 1 sv) (some ([x],bit N2))) fun v' M' N' w=>AppZ 1 (AMem.put M2 N2 (some (.cells [x] 1 false true))) n1 (N2+1) (svs.length+1) (svs++[x]) v' M' N' w/\∀k,k<N2+1->(AMem.put M2 N2 (some (.cells [x] 1 false true)):FM) k≠some (.cells svs 1 true true)->M' k=(AMem.put M2 N2 (some (.cells [x] 1 false true)):FM) k:=fun x hx=>
    I1 (sz:=1) (bytes:=24) (hsl2.frame (by omega) fun b e1 e2=>dc _ _ _ _ (by omega)) _ _ _ (by omega) (by omega) rfl (by simp[hx]) (by omega) (by omega)
   cases hxx:xs[60+j]with
   |ent r=>
    rw[hxx]at hgx c5
    obtain⟨v',rfl,hv⟩:=c5
    rcases hv with⟨z,_⟩|⟨_,_,b,rfl,b1,b2,b3⟩
    ·omega
    simp -implicitDefEqProofs (disch:=omega)only[W2,dd,Nat.testBit,Nat.reduceAdd,Nat.reduceShiftRight,Nat.reduceAnd,Nat.reduceBNe,Nat.reduceMul,A4,Option.isNone,one,dW one]
    refine dw (app _ rfl) fun v1 M4 N4 r4 w4 hh=>?_
    obtain⟨ha,hb⟩:=hh
    have hn4:=ha.n
    simp -implicitDefEqProofs (disch:=omega)only[W2,dd,Nat.testBit,Nat.reduceAdd,Nat.reduceShiftRight,Nat.reduceAnd,Nat.reduceBNe,Nat.reduceMul]
    refine dM (fin _ _ _ (by rw[hsl];exact .inr ⟨r,b,hgx,h.rd.okE hgx,rfl,by omega,by omega,b3⟩) _ _ _ _ _ ha hb) fun X e m n w hq=>?_
    rw[<-dy]
    exact hq
   |blank=>
    rw[hxx]at hgx c5
    have c5:v=.tuple #[.slice none 0 0,.int .i64 15]:=c5
    subst c5
    simp -implicitDefEqProofs (disch:=omega)only[W2,dd,Nat.testBit,Nat.reduceAdd,Nat.reduceShiftRight,Nat.reduceAnd,Nat.reduceBNe,Nat.reduceMul,A4,Option.isNone,one,dW one]
    refine dw (app _ rfl) fun v1 M4 N4 r4 w4 hh=>?_
    obtain⟨ha,hb⟩:=hh
    have hn4:=ha.n
    simp -implicitDefEqProofs (disch:=omega)only[W2,dd,Nat.testBit,Nat.reduceAdd,Nat.reduceShiftRight,Nat.reduceAnd,Nat.reduceBNe,Nat.reduceMul]
    refine dM (fin _ _ _ (by rw[hsl];exact .inl ⟨rfl,fun r e=>by rw[hgx]at e;cases e⟩) _ _ _ _ _ ha hb) fun X e m n w hq=>?_
    rw[<-dy]
    exact hq
   |dead=>
    rw[hxx]at hgx c5
    have c5:v=.tuple #[.slice none 0 0,.int .i64 15]:=c5
    subst c5
    simp -implicitDefEqProofs (disch:=omega)only[W2,dd,Nat.testBit,Nat.reduceAdd,Nat.reduceShiftRight,Nat.reduceAnd,Nat.reduceBNe,Nat.reduceMul,A4,Option.isNone,one,dW one]
    refine dw (app _ rfl) fun v1 M4 N4 r4 w4 hh=>?_
    obtain⟨ha,hb⟩:=hh
    have hn4:=ha.n
    simp -implicitDefEqProofs (disch:=omega)only[W2,dd,Nat.testBit,Nat.reduceAdd,Nat.reduceShiftRight,Nat.reduceAnd,Nat.reduceBNe,Nat.reduceMul]
    refine dM (fin _ _ _ (by rw[hsl];exact .inl ⟨rfl,fun r e=>by rw[hgx]at e;cases e⟩) _ _ _ _ _ ha hb) fun X e m n w hq=>?_
    rw[<-dy]
    exact hq
  ·rcases c3 with c3|c3
   ·rw[h.on.1]at c3;cases c3
   ·rw[Pw.due,h.on.2]at c3;cases c3.1
theorem e40:EL 40=none:=rfl
structure ScY(Y:Nat->List Value->FM->Nat->OR FM):Prop where
 up:YUp Y
 sc:∃Y0,ew Y0/\∀args m n,Y 40 args m n=mw Y0 40 args m n
theorem FD(hs:ScY Y){n:Nat}(hsb:sb<n/\m sb=some (.cells svs 1 so sw))(hsl:svs.length=30)(hS:Gr m n X svs):
  Rt (df PG EL Y 40 [gV,.slice (some ⟨sb,0,none⟩) 30 UNK,.int .i64 6] m n) fun v m' n' w=>n<n'/\(∀b,b<n->m' b=m b)/\(∀j,j<=n->Nat.mod w (bit j)=0)/\∃(l:List eF) (bs:List Bnd) (fv:Value),Fnd X 90 l/\v=.tuple #[fv,.slice (some ⟨n,0,none⟩) 5 5]/\m' n=some (.cells (dD bs) 4 false true)/\bs.length=5/\(∀b∈bs,0<=b.age/\b.age<18446744073709551616)/\SlZ 12 m' (n+1) n' fv l.length (eT l):=by
 obtain⟨Y0,hL,hsc⟩:=hs.sc
 have e:∀args,df PG EL Y 40 args m n=Y 40 args m n:=fun args=>by unfold df dX;rw[e40]
 obtain⟨l,bs,h1,h2,h3,h4⟩:=FC hL hsb hsl hS
 rw[e,hsc,h4,scR]
 have hok:∀c∈l,c.1.Ok:=fun c hc=>(h1.at_ c hc).2.2.2
 split
 ·rename_i hl
  subst hl
  exact⟨by omega,fun b hb=>dc _ _ _ _ (by omega),fun j hj=>fm fun b hb=>dh (by omega),[],bs,_,h1,rfl,de _ _ _,h2,h3,.inl ⟨rfl,rfl,rfl⟩⟩
 ·rename_i hl
  have hp:0<l.length:=List.length_pos_iff.2 hl
  exact⟨by omega,fun b hb=>by rw[dc _ _ _ _ (by omega),dc _ _ _ _ (by omega)],fun j hj=>fm fun b hb=>by rw[c9,dh (by omega),dh (by omega)];rfl,l,bs,_,h1,rfl,by rw[dc _ _ _ _ (by omega)];exact de _ _ _,h2,h3,.inr ⟨hp,jX hok,n+1,rfl,by omega,by omega,de _ _ _⟩⟩
def oI(es:List Ent)(c:eF):List Ent:=es.set c.1.blk ⟨c.1.kd,c.1.ver,c.2⟩
theorem tP(es:List Ent)(c:eF):(oI es c).length=es.length:=List.length_set
theorem MX(h:r.Ok)(a:Nat):(⟨r.kd,r.ver,a⟩:Ent).k=(r.kd:Int)/\(⟨r.kd,r.ver,a⟩:Ent).a=(a:Int):=by
 have:=h.v1
 have hne:¬r.ver=0:=by omega
 exact⟨if_neg hne,if_neg hne⟩
theorem KV{fb:Nat}{t:Int}{bv:Value}(hok:∀c∈l,c.1.Ok/\c.2<90)(hlen:l.length<=6)(hfb:fb<n1/\fb≠EN)(hfm:M1 fb=some (.cells (eT l) 12 true true))(hEN:EN<n1)(hR:R<n1/\R≠EN)(hr:M1 R=some (.cells [dp,.int .u64 0,.slice (some ⟨EN,0,none⟩) 6 UNK,bv,.int .u64 t,.int .i64 fe] 0 false true))(x1 x3 x5 x6 x7 x8 x9 x10 x11 x12 x14 x15 x16 x17 x18:Value)
  (hQ:∀M N w,n1<=N->(∀b,b<n1->b≠EN->M b=M1 b)->(∀b,b<n1->b≠EN->Nat.testBit w b=false)->M EN=some (.cells (ee (l.foldl oI es0)) 3 true true)->Q (.exit 3) [x1,.int .i64 (l.length:Int),x3,.slice (some ⟨fb,0,none⟩) l.length UNK,x5,x6,x7,x8,x9,x10,x11,x12,.pointer (some ⟨R,0,none⟩),x14,x15,x16,x17,x18] M N w):
  ∀(d j:Nat),j+d=l.length->∀(M:FM) (N w0:Nat) (es:List Ent),n1<=N->(∀b,b<n1->b≠EN->M b=M1 b)->(∀b,b<n1->b≠EN->Nat.testBit w0 b=false)->M EN=some (.cells (ee es) 3 true true)->es.length=6->es=(l.take j).foldl oI es0->
  Gv (dt PG EL Y rE [.int .i64 (j:Int),x1,.int .i64 (l.length:Int),x3,.slice (some ⟨fb,0,none⟩) l.length UNK,x5,x6,x7,x8,x9,x10,x11,x12,.pointer (some ⟨R,0,none⟩),x14,x15,x16,x17,x18] M N) fun X e m n w=>Q X e m n (Nat.lor w0 w):=by
 obtain⟨hf1,hf2⟩:=hfb
 obtain⟨hR1,hR2⟩:=hR
 intro d
 induction d with
 |zero=>
  intro j hj M N w0 es hN hM hw he hel hes
  refine dm (L:=rE) (b:=mr) rfl ?_
  simp only[mr]
  obtain rfl:j=l.length:=by omega
  simp -implicitDefEqProofs (disch:=omega)only[W2,dd,Nat.testBit,Nat.reduceAdd,Nat.reduceShiftRight,Nat.reduceAnd,Nat.reduceBNe,Nat.reduceMul]
  rw[hes,List.take_length]at he
  exact hQ _ _ _ hN hM hw he
 |succ d ih=>
  intro j hj M N w0 es hN hM hw he hel hes
  have hjl:j<l.length:=by omega
  obtain⟨ok,ha⟩:=hok _ (List.getElem_mem hjl)
  obtain⟨d0,d1,d2,d3,d4,d5,d6,d7,hrc⟩:=iT ok
  have hfc:ed l[j]=[.int .i64 (l[j].1.kd:Int),.int .i64 (l[j].1.blk:Int),.int .u64 (l[j].1.ver:Int),.int .u8 (d0:Int),.int .u8 (d1:Int),.int .u8 (d2:Int),.int .u8 (d3:Int),.int .u8 (d4:Int),.int .u8 (d5:Int),.int .u8 (d6:Int),.int .u8 (d7:Int),.int .i64 (l[j].2:Int)]:=by simp only[ed,hrc,List.cons_append,List.nil_append]
  have g1:=rj (fun c hc=>(hok c hc).1) hjl
  rw[hfc]at g1
  simp only[List.cons_append,List.nil_append]at g1
  have hfM:=(hM fb hf1 hf2).trans hfm
  have hrM:=(hM R hR1 hR2).trans hr
  have hix:fU 12 j (.slice (some ⟨fb,0,none⟩) l.length UNK)=some (.pointer (some ⟨fb,j*12,none⟩)):=by rw[eY hjl,Nat.zero_add]
  have hbk:l[j].1.blk<6:=ok.blk
  have hv1:=ok.v1
  have hv2:=ok.v2
  have hix2:fU 3 l[j].1.blk (.slice (some ⟨EN,0,none⟩) 6 UNK)=some (.pointer (some ⟨EN,l[j].1.blk*3,none⟩)):=jy hbk
  have hset:=oU es l[j].1.blk (by omega) ⟨l[j].1.kd,l[j].1.ver,l[j].2⟩
  rw[(MX ok _).1,(MX ok _).2]at hset
  simp only at hset
  refine dm (L:=rE) (b:=mr) rfl ?_
  simp only[mr]
  simp -implicitDefEqProofs (disch:=omega)only[W2,dd,Nat.testBit,Nat.reduceAdd,Nat.reduceShiftRight,Nat.reduceAnd,Nat.reduceBNe,Nat.reduceMul,hix,hfM,g1,hrM,hix2,he,hset]
  refine dM (ih (j+1) (by omega) _ _ (Nat.lor w0 (Nat.lor (Nat.lor (bit N) (bit N)) (bit EN))) (oI es l[j]) (by omega) (fun b h1 h2=>by rw[dc _ _ _ _ h2,dc _ _ _ _ (by omega),hM b h1 h2]) (fun b h1 h2=>by simp only[c9,hw b h1 h2,dh (show b≠N by omega),dh h2];rfl) (de _ _ _) (by rw[tP];exact hel) (by rw[List.take_succ_eq_append_getElem hjl,List.foldl_append,<-hes];rfl)) fun X e m n w hq=>?_
  rw[<-dy]
  exact hq
theorem KA{v:Value}(h:SlZ sz M n0 N v len cs):jS false v=some (.int .i64 (len:Int)):=by
 rcases h with⟨rfl,_,rfl⟩|⟨_,_,b,rfl,_⟩<;>rfl
theorem Hz{n0 EN R:Nat}{l:List eF}{M1:FM}{t fe:Int}{bv dp:Value}{es0:List Ent}(hok:∀c∈l,c.1.Ok/\c.2<90)(hlen:l.length<=6)(hS:SlZ 12 M1 n0 n1 fv l.length (eT l))(hEN:EN<n0/\n0<=n1)(hR:R<n1/\R≠EN)(hr:M1 R=some (.cells [dp,.int .u64 0,.slice (some ⟨EN,0,none⟩) 6 UNK,bv,.int .u64 t,.int .i64 fe] 0 false true))(he0:es0.length=6)(hee:M1 EN=some (.cells (ee es0) 3 true true))(x1 x3 x5 x6 x7 x8 x9 x10 x11 x12 x14 x15 x16 x17 x18:Value)
  (hQ:∀M N w,n1<=N->(∀b,b<n1->b≠EN->M b=M1 b)->(∀b,b<n1->b≠EN->Nat.testBit w b=false)->M EN=some (.cells (ee (l.foldl oI es0)) 3 true true)->Q (.exit 3) [x1,.int .i64 (l.length:Int),x3,fv,x5,x6,x7,x8,x9,x10,x11,x12,.pointer (some ⟨R,0,none⟩),x14,x15,x16,x17,x18] M N w):
  Gv (dt PG EL Y rE [.int .i64 0,x1,.int .i64 (l.length:Int),x3,fv,x5,x6,x7,x8,x9,x10,x11,x12,.pointer (some ⟨R,0,none⟩),x14,x15,x16,x17,x18] M1 n1) Q:=by
 rcases hS with⟨z1,_,rfl⟩|⟨_,_,fb,rfl,f1,f2,f3⟩
 ·have hl:l=[]:=List.length_eq_zero_iff.1 z1
  subst hl
  refine dm (L:=rE) (b:=mr) rfl ?_
  simp only[mr]
  simp -implicitDefEqProofs (disch:=omega)only[W2,dd,Nat.testBit,Nat.reduceAdd,Nat.reduceShiftRight,Nat.reduceAnd,Nat.reduceBNe,Nat.reduceMul]
  exact hQ _ _ _ (Nat.le_refl _) (fun _ _ _=>rfl) (fun b _ _=>Nat.zero_testBit _) hee
 ·exact(KV hok hlen ⟨f2,by omega⟩ f3 (by omega) hR hr _ _ _ _ _ _ _ _ _ _ _ _ _ _ _ hQ l.length 0 (Nat.zero_add _) M1 n1 0 es0 (Nat.le_refl _) (fun _ _ _=>rfl) (fun b _ _=>Nat.zero_testBit _) hee he0 rfl).mono fun X e m n w hq=>by simpa only[dx]using hq
theorem HC{n1 R bb:Nat}{bs:List Bnd}{M1:FM}{fe:Int}{bv dp ev:Value}(hbl:bs.length=5)(hage:∀b∈bs,0<=b.age/\b.age<18446744073709551616)(hbb:bb<n1/\bb≠R)(hbm:M1 bb=some (.cells (dD bs) 4 false true))(hR:R<n1)(ho:Am.one bv=true/\Am.one dp=true/\Am.one ev=true)(x1 x3 x4 x6 x7 x8 x9 x10 x11 x12 x13 x14 x16 x17 x18 x19 x20:Value)
  (hQ:∀M N w (t:Int),0<=t/\t<18446744073709551616->n1<=N->(∀b,b<n1->b≠R->M b=M1 b)->(∀b,b<n1->b≠R->Nat.testBit w b=false)->M R=some (.cells [dp,.int .u64 0,ev,bv,.int .u64 t,.int .i64 fe] 0 false true)->Q (.exit 5) [x1,.int .i64 5,x3,x4,.slice (some ⟨bb,0,none⟩) 5 5,x6,x7,x8,x9,x10,x11,x12,x13,x14,.pointer (some ⟨R,0,none⟩),x16,x17,x18,x19,x20] M N w):
  ∀(d j:Nat),j+d=5->∀(M:FM) (N w0:Nat) (t:Int),0<=t/\t<18446744073709551616->n1<=N->(∀b,b<n1->b≠R->M b=M1 b)->(∀b,b<n1->b≠R->Nat.testBit w0 b=false)->M R=some (.cells [dp,.int .u64 0,ev,bv,.int .u64 t,.int .i64 fe] 0 false true)->
  Gv (dt PG EL Y zg [.int .i64 (j:Int),x1,.int .i64 5,x3,x4,.slice (some ⟨bb,0,none⟩) 5 5,x6,x7,x8,x9,x10,x11,x12,x13,x14,.pointer (some ⟨R,0,none⟩),x16,x17,x18,x19,x20] M N) fun X e m n w=>Q X e m n (Nat.lor w0 w):=by
 obtain⟨hb1,hb2⟩:=hbb
 obtain⟨o1,o2,o3⟩:=ho
 intro d
 induction d with
 |zero=>
  intro j hj M N w0 t ht hN hM hw hr
  refine dm (L:=zg) (b:=qG) rfl ?_
  simp only[qG]
  obtain rfl:j=5:=by omega
  simp -implicitDefEqProofs (disch:=omega)only[W2,dd,Nat.testBit,Nat.reduceAdd,Nat.reduceShiftRight,Nat.reduceAnd,Nat.reduceBNe,Nat.reduceMul]
  exact hQ _ _ _ _ ht hN hM hw hr
 |succ d ih=>
  intro j hj M N w0 t ht hN hM hw hr
  have hj5:j<5:=by omega
  have hjb:j<bs.length:=by omega
  obtain⟨c1,c2,c3,c4,c5⟩:=eM hjb
  have hbM:=(hM bb hb1 hb2).trans hbm
  have hix:fU 4 j (.slice (some ⟨bb,0,none⟩) 5 5)=some (.pointer (some ⟨bb,j*4,none⟩)):=by rw[eY hj5,Nat.zero_add]
  obtain⟨A,hA1,hA2,hA3⟩:=HE ht (hage _ (List.getElem_mem hjb))
  refine dm (L:=zg) (b:=qG) rfl ?_
  simp only[qG]
  simp -implicitDefEqProofs (disch:=omega)only[W2,dd,Nat.testBit,Nat.reduceAdd,Nat.reduceShiftRight,Nat.reduceAnd,Nat.reduceBNe,Nat.reduceMul,hix,hbM,c1,hr,hA1]
  refine dM (ih (j+1) (by omega) _ _ (Nat.lor w0 (Nat.lor (Nat.lor (bit N) (bit N)) (bit R))) A ⟨hA2,hA3⟩ (by omega) (fun b h1 h2=>by rw[dc _ _ _ _ h2,dc _ _ _ _ (by omega),hM b h1 h2]) (fun b h1 h2=>by simp only[c9,hw b h1 h2,dh (show b≠N by omega),dh h2];rfl) (de _ _ _)) fun X e m n w hq=>?_
  rw[<-dy]
  exact hq
def Top(es:List Ent)(X:List Sec):Prop:=∀a r,60<=a->a<90->X[a]?=some (.ent r)->∃h:r.blk<es.length,r.ver<=es[r.blk].ver
theorem oQ:∀{l:List eF} {es:List Ent} {b:Nat},(∀c∈l,c.1.blk≠b)->(l.foldl oI es)[b]?=es[b]?
 |[],_,_,_=>rfl
 |c::l,es,b,h=>by
  rw[List.foldl_cons,oQ fun d hd=>h d (List.mem_cons_of_mem _ hd),oI,List.getElem?_set_ne (h c List.mem_cons_self)]
theorem uF:∀{l:List eF} {es:List Ent} {c:eF},(l.map fun x=>x.1.blk).Nodup->c∈l->c.1.blk<es.length->(l.foldl oI es)[c.1.blk]?=some ⟨c.1.kd,c.1.ver,c.2⟩
 |d::l,es,c,hn,hc,hb=>by
  rw[List.map_cons,List.nodup_cons]at hn
  rw[List.foldl_cons]
  rcases List.mem_cons.1 hc with rfl|hc
  ·rw[oQ fun x hx e=>hn.1 (List.mem_map.2 ⟨x,hx,e⟩),oI,List.getElem?_set_self hb]
  ·exact uF hn.2 hc (by rw[tP];exact hb)
theorem qg:∀(l:List eF) (es:List Ent),(l.foldl oI es).length=es.length
 |[],_=>rfl
 |c::l,es=>by rw[List.foldl_cons,qg l,tP]
theorem FZ(h:Fnd X 90 l):Con (l.foldl oI (ff 6)) X/\Top (l.foldl oI (ff 6)) X:=by
 have hlen:(l.foldl oI (ff 6)).length=6:=by rw[qg];simp[ff]
 refine⟨fun k hk hv=>?_,fun a r h1 h2 h3=>?_⟩
 ·by_cases hc:∃c∈l,c.1.blk=k
  ·obtain⟨c,c1,rfl⟩:=hc
   have e:=uF (es:=ff 6) h.nd c1 (by simp[ff];omega)
   rw[List.getElem?_eq_getElem hk]at e
   injection e with e
   obtain⟨_,_,hx,_⟩:=h.at_ c c1
   exact⟨c.1,by rw[e];exact hx,rfl,by rw[e],by rw[e]⟩
  ·exfalso
   have e:=oQ (l:=l) (es:=ff 6) (b:=k) fun c hc' e=>hc ⟨c,hc',e⟩
   rw[List.getElem?_eq_getElem hk]at e
   have hk6:k<6:=by omega
   have e2:(ff 6)[k]?=some ⟨0,0,0⟩:=by rw[ff,List.getElem?_replicate,if_pos hk6]
   rw[e2]at e
   injection e with e
   exact hv (by rw[e])
 ·obtain⟨c,c1,c2,c3⟩:=h.all a r h1 h2 h3
  obtain⟨_,_,_,cok⟩:=h.at_ c c1
  have hb:=cok.blk
  have e:=uF (es:=ff 6) h.nd c1 (by simp[ff];omega)
  have hk:r.blk<(l.foldl oI (ff 6)).length:=by rw[hlen];omega
  rw[c2,List.getElem?_eq_getElem hk]at e
  injection e with e
  exact⟨hk,by rw[e];exact c3⟩
structure OpenR(i:Ids)(pb seen:Nat)(xs:List Sec)(m:FM)(n:Nat)(v:Value)(m':FM)(n' w Rn EN:Nat)(es:List Ent)(bv:Value)(t:Nat)(p:Pw):Prop where
 v:v=.tuple #[.pointer (some ⟨Rn,0,none⟩),.int .i64 0]
 ids:n<=Rn/\Rn<n'/\n<=EN/\EN<n'
 dr:Dr i.D Rn EN m' es bv t 0
 bv:Am.one bv=true
 rd:Rd i pb m' n seen xs
 pw:PwR i.P m' p
 ps:PwS seen p
 on:p.off=false/\p.armed=false
 same:∀b,b<n->b≠i.P->b≠i.D->m' b=m b/\Nat.testBit w b=false
 con:Con es xs
 top:Top es xs
def Kj(i:Ids)(pb seen:Nat)(xs:List Sec)(m:FM)(n:Nat)(v:Value)(m':FM)(n' w:Nat):Prop:=∃Rn EN es bv t p,OpenR i pb seen xs m n v m' n' w Rn EN es bv t p
theorem Ox(hs:ScY Y){i:Ids}{n:Nat}(h:Rd i pb m n seen xs)(hp:PwR i.P m p)(hI:PwS seen p)(hon:p.off=false/\p.armed=false):
  Rt (df PG EL Y 16 [.pointer (some ⟨i.D,0,none⟩),.int .u64 0,.int .i64 ((6:Nat):Int)] m n) (Kj i pb seen xs m n):=by
 obtain⟨h1,h2,h3,h4,h5,h6,h7,h8,h9⟩:=h.ok
 have hKN:=h.KN
 refine eZ (R:=Kj i pb seen xs m n) e16 rfl (fun r m' n' w hh hv hw=>?_) fun Q hQ=>?_
 ·obtain⟨Rn,EN,es,bv,t,p,hh⟩:=hh
  rw[hh.v]at hv
  cases hv
 simp only[PU]
 simp -implicitDefEqProofs (disch:=omega)only[W2,dd,Nat.testBit,Nat.reduceAdd,Nat.reduceShiftRight,Nat.reduceAnd,Nat.reduceBNe,Nat.reduceMul]
 refine dw (su (by omega) h.dk) fun r2 m2 n2 r3 w2 hh=>?_
 obtain⟨q1,q2,q3,Rn,EN,rfl,q4,q5,q6,q7,q8,q9,q10⟩:=hh
 simp -implicitDefEqProofs (disch:=omega)only[W2,dd,Nat.testBit,Nat.reduceAdd,Nat.reduceShiftRight,Nat.reduceAnd,Nat.reduceBNe,Nat.reduceMul]
 refine di (lF (by omega) (h.dk.far (q2 i.D (by omega)))) fun r4=>?_
 simp only[gV]
 simp -implicitDefEqProofs (disch:=omega)only[W2,dd,Nat.testBit,Nat.reduceAdd,Nat.reduceShiftRight,Nat.reduceAnd,Nat.reduceBNe,Nat.reduceMul,q8,q9,q10]
 generalize hM3:(AMem.put m2 n2 _:FM)=M3
 have l3:∀b,b<n2->M3 b=m2 b:=fun b hb=>by rw[<-hM3,dc _ _ _ _ (by omega)]
 have k3:M3 n2=some (.cells [.int .i64 60,.int .i64 5,.int .i64 2,.int .i64 3,.int .i64 1] 0 false true):=by rw[<-hM3];exact de _ _ _
 clear hM3
 have kR:=(l3 Rn (by omega)).trans q8
 have kE:=(l3 EN (by omega)).trans q9
 have l4:∀b,b<n->M3 b=m b:=fun b hb=>(l3 b (by omega)).trans (q2 b hb)
 have hrd3:Rd i pb M3 (n2+1) seen xs:=h.dF (by omega) l4
 have hO:OI i pb seen (n2+1) xs M3 M3 (n2+1) 0 p (.slice none 0 0) []:=⟨hrd3,(l4 i.P (by omega)).trans hp,hI,hon,Nat.le_refl _,fun _ _ _ _=>rfl,fun b _ _ _=>Nat.zero_testBit _,.inl ⟨rfl,rfl,rfl⟩,fun j v hv=>by simp at hv⟩
 refine dS ((Hs hs.up (R:=Rn) (gb:=n2) (M1:=M3) (ev:=.slice (some ⟨EN,0,none⟩) 6 UNK) (bv:=.slice (some ⟨Rn-1,0,none⟩) 5 5) (tv:=.int .u64 0) (fv:=.int .i64 0) ⟨by omega,by omega⟩ ⟨by omega,by omega,by omega⟩ kR ⟨by omega,by omega,by omega⟩ k3 _ _ _ _ _ _ _ _ _ (fun y0 y1 M N w p2 sv svs hsl hO2=>?_) 30 0 rfl _ _ M3 (n2+1) 0 p (.slice none 0 0) [] rfl hO).mono fun X e m' n' w hq=>by simpa only[dx]using hq)
 intro rr
 obtain⟨o1,o2,o3,o4,o5,o6,o7,o8,o9⟩:=hO2
 rcases o8 with⟨z,_⟩|⟨_,_,sb,rfl,sb1,sb2,sb3⟩
 ·omega
 rw[hsl]
 have kg:=(o6 n2 (by omega) (by omega) (by omega)).trans k3
 have kR2:=(o6 Rn (by omega) (by omega) (by omega)).trans kR
 have kE2:=(o6 EN (by omega) (by omega) (by omega)).trans kE
 simp -implicitDefEqProofs (disch:=omega)only[W2,dd,Nat.testBit,Nat.reduceAdd,Nat.reduceShiftRight,Nat.reduceAnd,Nat.reduceBNe,Nat.reduceMul,kg]
 have hSV:Gr M N xs svs:=fun j v hv=>by
  rcases o9 j v hv with h|⟨r,b,e1,e2,e3,e4,e5,e6⟩
  ·exact .inl h
  ·exact .inr ⟨r,b,true,true,e1,e2,e3,e5,e6⟩
 refine dw (FD hs ⟨sb2,sb3⟩ hsl hSV) fun r5 M5 N5 r6 w5 hh=>?_
 obtain⟨s1,s2,s3,l,bs,fv,s4,rfl,s5,s6,s7,s8⟩:=hh
 have kR3:=(s2 Rn (by omega)).trans kR2
 have hfo:=s8.one
 have hfl:=KA s8
 simp -implicitDefEqProofs (disch:=omega)only[W2,dd,Nat.testBit,Nat.reduceAdd,Nat.reduceShiftRight,Nat.reduceAnd,Nat.reduceBNe,Nat.reduceMul,kR3,hfo,hfl]
 generalize hM6:(AMem.put M5 Rn _:FM)=M6
 have l6:∀b,b≠Rn->M6 b=M5 b:=fun b hb=>by rw[<-hM6,dc _ _ _ _ hb]
 have kR6:M6 Rn=some (.cells [.pointer (some ⟨i.D,0,none⟩),.int .u64 0,.slice (some ⟨EN,0,none⟩) 6 UNK,.slice (some ⟨N,0,none⟩) 5 5,.int .u64 0,.int .i64 0] 0 false true):=by rw[<-hM6];exact de _ _ _
 clear hM6
 have kE6:=(l6 EN (by omega)).trans ((s2 EN (by omega)).trans kE2)
 have hok:∀c∈l,c.1.Ok/\c.2<90:=fun c hc=>by
  obtain⟨a,b,d,e⟩:=s4.at_ c hc
  exact⟨e,b⟩
 refine dS (Hz (n0:=N+1) (EN:=EN) (R:=Rn) (M1:=M6) (l:=l) (es0:=ff 6) (t:=0) (fe:=0) (bv:=.slice (some ⟨N,0,none⟩) 5 5) (dp:=.pointer (some ⟨i.D,0,none⟩)) hok (Es s4) (s8.frame (Nat.le_refl _) fun b h1 h2=>l6 b (by omega)) ⟨by omega,by omega⟩ ⟨by omega,by omega⟩ kR6 (by simp[ff]) kE6 _ _ _ _ _ _ _ _ _ _ _ _ _ _ _ fun M7 N7 w7 u1 u2 u3 u4=>?_)
 intro r7
 have kb7:=(u2 N (by omega) (by omega)).trans ((l6 N (by omega)).trans s5)
 have kR7:=(u2 Rn (by omega) (by omega)).trans kR6
 simp -implicitDefEqProofs (disch:=omega)only[W2,dd,Nat.testBit,Nat.reduceAdd,Nat.reduceShiftRight,Nat.reduceAnd,Nat.reduceBNe,Nat.reduceMul]
 refine dS ((HC (n1:=N7) (R:=Rn) (bb:=N) (bs:=bs) (M1:=M7) (fe:=0) (bv:=.slice (some ⟨N,0,none⟩) 5 5) (dp:=.pointer (some ⟨i.D,0,none⟩)) (ev:=.slice (some ⟨EN,0,none⟩) 6 UNK) s6 s7 ⟨by omega,by omega⟩ kb7 (by omega) ⟨rfl,rfl,rfl⟩ _ _ _ _ _ _ _ _ _ _ _ _ _ _ _ _ _ (fun M8 N8 w8 t8 ht8 v1 v2 v3 v4=>?_) 5 0 rfl M7 N7 0 0 ⟨by omega,by omega⟩ (Nat.le_refl _) (fun _ _ _=>rfl) (fun b _ _=>Nat.zero_testBit _) kR7).mono fun X e m' n' w hq=>by simpa only[dx]using hq)
 intro r8
 simp -implicitDefEqProofs (disch:=omega)only[W2,dd,Nat.testBit,Nat.reduceAdd,Nat.reduceShiftRight,Nat.reduceAnd,Nat.reduceBNe,Nat.reduceMul]
 obtain⟨f1,f2⟩:=FZ s4
 have sm:∀b,b<n->b≠i.P->b≠i.D->M8 b=m b:=fun b e1 e2 e3=>by
  rw[v2 b (by omega) (by omega),u2 b (by omega) (by omega),l6 b (by omega),s2 b (by omega),o6 b (by omega) e2 e3,l4 b e1]
 have sN:∀b,b<n->M8 b=M b:=fun b e1=>by
  rw[v2 b (by omega) (by omega),u2 b (by omega) (by omega),l6 b (by omega),s2 b (by omega)]
 refine hQ _ _ _ _ _ ⟨Rn,EN,l.foldl oI (ff 6),.slice (some ⟨N,0,none⟩) 5 5,t8.toNat,p2,rfl,⟨by omega,by omega,by omega,by omega⟩,⟨?_,?_,by rw[qg];simp[ff]⟩,rfl,?_,(sN i.P (by omega)).trans o2,o3,o4,fun b e1 e2 e3=>⟨sm b e1 e2 e3,?_⟩,f1,f2⟩
 ·rw[v4,Int.toNat_of_nonneg ht8.1,qg]
  rfl
 ·exact(v2 EN (by omega) (by omega)).trans u4
 ·exact h.jT (Nat.le_refl _) (fun b e1 e2 e3=>sm b e1 e2 e3) (o1.dk.far (sN i.D (by omega)))
 ·simp only[c9,dK (q3 n (Nat.le_refl _)) b e1,dh (show b≠n2 by omega),o7 b (by omega) e2 e3,dK (s3 N (Nat.le_refl _)) b (by omega),dh (show b≠Rn by omega),u3 b (by omega) (by omega),v3 b (by omega) (by omega)]
  rfl
def zeroV:Value:=.agg #[.int .u8 0,.int .u8 0,.int .u8 0,.int .u8 0,.int .u8 0,.int .u8 0,.int .u8 0,.int .u8 0]
structure RdD(i:Ids)(pb seen:Nat)(xs:List Sec)(m:FM)(n Rn EN:Nat)(es:List Ent)(bv:Value)(t:Nat)(p:Pw):Prop where
 ids:(Rn<n/\Rn≠i.P/\Rn≠i.D)/\EN<n/\EN≠i.P/\EN≠i.D
 dr:Dr i.D Rn EN m es bv t 0
 bv:Am.one bv=true
 rd:Rd i pb m n seen xs
 pw:PwR i.P m p
 ps:PwS seen p
 on:p.off=false/\p.armed=false
 con:Con es xs
 top:Top es xs
def NG(xs:List Sec)(es:List Ent)(k:Nat)(h:k<es.length)(v:Value):Prop:=
 (v=.tuple #[.int .u64 0,zeroV,.int .i64 9]/\(es[k].ver=0\/∃(a:Nat) (rc:Rec),xs[a]?=some (Sec.ent rc)/\rc.blk=k/\rc.ver=es[k].ver/\rc.kd=2))\/
 ∃(a:Nat) (rc:Rec),xs[a]?=some (Sec.ent rc)/\rc.blk=k/\rc.ver=es[k].ver/\rc.kd=1/\rc.Ok/\v=.tuple #[.int .u64 (rc.ver:Int),.agg (n8s rc.ds).toArray,.int .i64 0]
def Kh(i:Ids)(pb seen:Nat)(xs:List Sec)(m:FM)(n Rn EN:Nat)(es:List Ent)(bv:Value)(t:Nat)(k:Nat)(hk:k<es.length)(v:Value)(m':FM)(n' w:Nat):Prop:=
 n<=n'/\NG xs es k hk v/\(∀b,b<n->b≠i.P->b≠i.D->m' b=m b/\Nat.testBit w b=false)/\∃p',RdD i pb seen xs m' n' Rn EN es bv t p'
theorem Ov(hU:YUp Y){n Rn:Nat}{bv:Value}(h:RdD i pb seen xs m n Rn EN es bv t p)(hk:k<es.length):
  Rt (df PG EL Y 17 [.pointer (some ⟨Rn,0,none⟩),.int .i64 (k:Int)] m n) (Kh i pb seen xs m n Rn EN es bv t k hk):=by
 obtain⟨⟨i1,i2,i3⟩,i4,i5,i6⟩:=h.ids
 obtain⟨h1,h2,h3,h4,h5,h6,h7,h8,h9⟩:=h.rd.ok
 have hKN:=h.rd.KN
 have hel:=h.dr.el
 have hr:=h.dr.r
 have hen:=h.dr.en
 obtain⟨a1,a2,a3,a4⟩:=iY hk
 have hix:=jy (b:=EN) (c:=UNK) hk
 refine eZ (R:=Kh i pb seen xs m n Rn EN es bv t k hk) e17 rfl (fun v m' n' w hh hv hw=>?_) fun Q hQ=>?_
 ·obtain⟨_,hR,_⟩:=hh
  rcases hR with⟨rfl,_⟩|⟨_,_,_,_,_,_,_,rfl⟩<;>cases hv
 have fin0:∀(m':FM) (n' w:Nat),n<=n'->(∀b,b<n->m' b=m b)->(∀b,b<n->Nat.testBit w b=false)->(es[k].ver=0\/∃(a:Nat) (rc:Rec),xs[a]?=some (Sec.ent rc)/\rc.blk=k/\rc.ver=es[k].ver/\rc.kd=2)->Kh i pb seen xs m n Rn EN es bv t k hk (.tuple #[.int .u64 0,zeroV,.int .i64 9]) m' n' w:=fun m' n' w g1 g2 g3 g4=>
  ⟨g1,.inl ⟨rfl,g4⟩,fun b hb _ _=>⟨g2 b hb,g3 b hb⟩,p,⟨⟨by omega,i2,i3⟩,by omega,i5,i6⟩,h.dr.dF (g2 _ i1) (g2 _ i4),h.bv,h.rd.dF g1 g2,(g2 i.P (by omega)).trans h.pw,h.ps,h.on,h.con,h.top⟩
 simp only[PT]
 simp -implicitDefEqProofs (disch:=omega)only[W2,dd,Nat.testBit,Nat.reduceAdd,Nat.reduceShiftRight,Nat.reduceAnd,Nat.reduceBNe,Nat.reduceMul]
 generalize hM1:(AMem.put m n _:FM)=M1
 have l1:∀b,b<n->M1 b=m b:=fun b hb=>by rw[<-hM1,dc _ _ _ _ (by omega)]
 have k1:M1 n=some (.cells [.int .u8 0,.int .u8 0,.int .u8 0,.int .u8 0,.int .u8 0,.int .u8 0,.int .u8 0,.int .u8 0] 0 false true):=by rw[<-hM1];exact de _ _ _
 clear hM1
 have hr1:=(l1 Rn i1).trans hr
 have hen1:=(l1 EN i4).trans hen
 have hd1:=h.dr.dF (l1 _ i1) (l1 _ i4)
 refine di (gy (by omega) hr1) fun r1=>?_
 simp -implicitDefEqProofs (disch:=omega)only[W2,dd,Nat.testBit,Nat.reduceAdd,Nat.reduceShiftRight,Nat.reduceAnd,Nat.reduceBNe,Nat.reduceMul]
 refine di (uP (by omega) hd1 hk) fun r2=>?_
 by_cases hv:es[k].ver=0
 ·have hka:es[k].a=-1:=if_pos hv
  rw[hka]at a4
  simp -implicitDefEqProofs (disch:=omega)only[W2,dd,Nat.testBit,Nat.reduceAdd,Nat.reduceShiftRight,Nat.reduceAnd,Nat.reduceBNe,Nat.reduceMul,hr1,hen1,hix,a2,a4,k1]
  exact hQ _ _ _ _ _ (fin0 _ _ _ (by omega) (fun b hb=>by rw[dc _ _ _ _ (by omega),l1 b hb]) (fun b hb=>by simp only[c9,dh (show b≠n by omega)];rfl) (.inl hv))
 ·obtain⟨rc,e1,e2,e3,e4⟩:=h.con k hk hv
  have ok:=h.rd.okE e1
  have hlt:es[k].adr<xs.length:=(List.getElem?_eq_some_iff.1 e1).1
  have hxl:=h.rd.len
  have hka:es[k].a=(es[k].adr:Int):=if_neg hv
  have hkk:es[k].k=(es[k].kd:Int):=if_neg hv
  rw[hka]at a4
  rw[hkk]at a2
  rcases ok.kd with hk1|⟨hk2,_⟩
  ·have hkd:es[k].kd=1:=by omega
   rw[hkd]at a2
   obtain⟨d0,d1,d2,d3,d4,d5,d6,d7,hrc⟩:=iT ok
   have hds:n8s rc.ds=[.int .u8 (d0:Int),.int .u8 (d1:Int),.int .u8 (d2:Int),.int .u8 (d3:Int),.int .u8 (d4:Int),.int .u8 (d5:Int),.int .u8 (d6:Int),.int .u8 (d7:Int)]:=by
    have:=hrc
    rw[Rec.cs]at this
    injection this with _ this
    injection this with _ this
    injection this with _ this
   have hv2:=ok.v2
   simp -implicitDefEqProofs (disch:=omega)only[W2,dd,Nat.testBit,Nat.reduceAdd,Nat.reduceShiftRight,Nat.reduceAnd,Nat.reduceBNe,Nat.reduceMul,hr1,hen1,hix,a2,a4,k1]
   refine dw (Im hU (h.rd.dF (Nat.le_succ _) l1) ((l1 i.P (by omega)).trans h.pw) h.ps hd1 h.bv ⟨by omega,i2,i3⟩ ⟨by omega,i5,i6⟩ hk ok e1 ⟨e2,e3,e4⟩) fun v M2 N2 r2 w2 hh=>?_
   obtain⟨t1,t2,t3,t4,p',t5,t6,hc⟩:=hh
   rcases hc with⟨_,_,c3,c4,rfl⟩|⟨_,_,c3⟩
   ·have k2:=(t3 n (by omega) (by omega) (by omega)).1.trans k1
    simp only[Rec.val,hrc]
    simp -implicitDefEqProofs (disch:=omega)only[W2,dd,Nat.testBit,Nat.reduceAdd,Nat.reduceShiftRight,Nat.reduceAnd,Nat.reduceBNe,Nat.reduceMul,k2]
    have sm:∀b,b<n->b≠i.P->b≠i.D->M2 b=m b:=fun b e1 e2 e3=>(t3 b (by omega) e2 e3).1.trans (l1 b e1)
    generalize hM4:(AMem.put (AMem.put M2 N2 _) n _:FM)=M4
    have l4:∀b,b<n->M4 b=M2 b:=fun b hb=>by rw[<-hM4,dc _ _ _ _ (by omega),dc _ _ _ _ (by omega)]
    refine hQ _ _ _ _ _ ⟨by omega,.inr ⟨_,rc,e1,e2,e3,hk1,ok,by rw[hds]⟩,fun b q1 q2 q3=>⟨(l4 b q1).trans (sm b q1 q2 q3),?_⟩,p',⟨⟨by omega,i2,i3⟩,by omega,i5,i6⟩,h.dr.dF ((l4 _ i1).trans (sm _ i1 i2 i3)) ((l4 _ i4).trans (sm _ i4 i5 i6)),h.bv,?_,(l4 i.P (by omega)).trans t5,t6,⟨c3,c4.trans h.on.2⟩,h.con,h.top⟩
    ·simp only[c9,dh (show b≠n by omega),(t3 b (by omega) q2 q3).2,dh (show b≠N2 by omega)];rfl
    ·exact h.rd.jT (by omega) (fun b q1 q2 q3=>(l4 b q1).trans (sm b q1 q2 q3)) (t4.far (l4 i.D (by omega)))
   ·rcases c3 with c3|c3
    ·rw[h.on.1]at c3;cases c3
    ·rw[Pw.due,h.on.2]at c3;cases c3.1
  ·have hkd:es[k].kd=2:=by omega
   rw[hkd]at a2
   simp -implicitDefEqProofs (disch:=omega)only[W2,dd,Nat.testBit,Nat.reduceAdd,Nat.reduceShiftRight,Nat.reduceAnd,Nat.reduceBNe,Nat.reduceMul,hr1,hen1,hix,a2,a4,k1]
   exact hQ _ _ _ _ _ (fin0 _ _ _ (by omega) (fun b hb=>by rw[dc _ _ _ _ (by omega),l1 b hb]) (fun b hb=>by simp only[c9,dh (show b≠n by omega)];rfl) (.inr ⟨_,rc,e1,e2,e3,hk2⟩))
structure Chg(i:Ids)(M M':FM)(N N':Nat):Prop where
 hN:N<=N'
 ch:∀b c s o w,b<N->¬(i.EN<b/\b<i.K)->s≠10->M b=some (.cells c s o w)->M' b=some (.cells c s o w)
theorem By.chg{M':FM}{N':Nat}{v:Value}(h:By i pb M N v len cs)(hf:Chg i M M' N N'):By i pb M' N' v len cs:=by
 obtain⟨b,o,c,xs,opn,wr,h1,⟨h2,h2'⟩,h3,h4,h5,h6,h7⟩:=h
 exact⟨b,o,c,xs,opn,wr,h1,⟨h2,h2'⟩,h3,by have:=hf.hN;omega,hf.ch _ _ _ _ _ h4 (by omega) (by decide) h5,h6,h7⟩
theorem Frz.chg{M':FM}{N':Nat}(h:Frz i pb M N b cs)(hf:Chg i M M' N N'):Frz i pb M' N' b cs:=by
 obtain⟨⟨h2,h2'⟩,h3,h4,h5⟩:=h
 exact⟨⟨h2,h2'⟩,h3,by have:=hf.hN;omega,hf.ch _ _ _ _ _ h4 (by omega) (by decide) h5⟩
theorem mF.chg{M':FM}{N':Nat}(hf:Chg i M M' N N'):∀x s,mF i pb M N x s->mF i pb M' N' x s
 |x,.blank,h=>h
 |x,.dead,h=>h
 |x,.ent r,⟨h1,h2,h3⟩=>⟨h1,h2,h3.chg hf⟩
theorem Pop.chg{M':FM}{N':Nat}(hf:Chg i M M' N N'):∀o p,Pop i pb M N o p->Pop i pb M' N' o p
 |o,.wr a r,⟨ba,bb,v,h1,h2,h3,h4,h5,h6⟩=>⟨ba,bb,v,h1,h2.chg hf,h3.chg hf,h4,h5,h6.chg hf⟩
 |o,.er b,⟨ba,h1,h2,h3⟩=>⟨ba,h1,h2.chg hf,h3⟩
theorem jB.chg{M':FM}{N' cb:Nat}(h:jB i pb M N mb cb xs)(hf:Chg i M M' N N')(h1:¬(i.EN<mb/\mb<i.K))(h2:¬(i.EN<cb/\cb<i.K)):jB i pb M' N' mb cb xs:=by
 obtain⟨raw,hm,hr⟩:=h
 have e1:=hf.ch _ _ _ _ _ hm.mbN h1 (by decide) hm.st
 have e2:=hf.ch _ _ _ _ _ hm.cbN h2 (by decide) hm.sc
 exact⟨raw,hm.frame hf.hN (e1.trans hm.st.symm) (e2.trans hm.sc.symm),hr.mono (mF.chg hf)⟩
theorem Cch.chg{M':FM}{N':Nat}{ps:List Op}(h:Cch i pb M N dur ps)(hf:Chg i M M' N N'):Cch i pb M' N' dur ps:=by
 obtain⟨h1,h2,h3,h4,h5,h6,h7,h8,h9⟩:=h.ok
 have hK:=h.KN
 have hN:=hf.hN
 have hp:=h.pbN
 have hQ:=h.QN
 obtain⟨pv,hst,pcs,hpo,hpv⟩:=h.st
 refine⟨h.ok,Nat.le_trans hK hN,h.pbk,by omega,by omega,⟨pv,hf.ch _ _ _ _ _ (by omega) (by omega) (by decide) hst,pcs,hpo.mono (Pop.chg hf),?_⟩,h.con.chg hf (by omega) (by omega),h.dur.chg hf (by omega) (by omega)⟩
 rcases hpv with k|⟨k1,k2,k3,k4,k5⟩
 ·exact .inl k
 ·exact .inr ⟨k1,k2,by omega,k4,hf.ch _ _ _ _ _ k3 (by omega) (by decide) k5⟩
theorem DkR.chg{C P:Nat}{M':FM}{N':Nat}(h:DkR D C P seen M)(hf:Chg i M M' N N')(hD:D<N)(hg:¬(i.EN<D/\D<i.K)):DkR D C P seen M':=by
 obtain⟨s0,s1,s2,s3,op,hd⟩:=h
 exact⟨s0,s1,s2,s3,op,hf.ch _ _ _ _ _ hD hg (by decide) hd⟩
theorem Dsk.chg{M':FM}{N':Nat}{ps:List Op}(h:Dsk i pb M N dur ps)(hf:Chg i M M' N N'):Dsk i pb M' N' dur ps:=by
 obtain⟨h1,h2,h3,h4,h5,h6,h7,h8,h9⟩:=h.cc.ok
 have hK:=h.cc.KN
 exact⟨h.cc.chg hf,h.dk.chg hf (by omega) (by omega)⟩
theorem Dr.chg{Rb:Nat}{M':FM}{N':Nat}{bv:Value}(h:Dr D Rb EN M es bv t fe)(hf:Chg i M M' N N')(h1:Rb<N/\¬(i.EN<Rb/\Rb<i.K))(h2:EN<N/\¬(i.EN<EN/\EN<i.K)):Dr D Rb EN M' es bv t fe:=
 ⟨hf.ch _ _ _ _ _ h1.1 h1.2 (by decide) h.r,hf.ch _ _ _ _ _ h2.1 h2.2 (by decide) h.en,h.el⟩
theorem Drv.chg{M':FM}{N':Nat}{ps:List Op}(h:Drv i pb M N dur ps es bs t)(hf:Chg i M M' N N'):Drv i pb M' N' dur ps es bs t:=by
 obtain⟨h1,h2,h3,h4,h5,h6,h7,h8,h9⟩:=h.dsk.cc.ok
 have hK:=h.dsk.cc.KN
 have hN:=hf.hN
 obtain⟨bv,hd,b,c,opn,wr,k1,⟨k2,k2'⟩,k3,k4,k5,k6,k7⟩:=h.r
 exact⟨h.dsk.chg hf,⟨bv,hd.chg hf ⟨by omega,by omega⟩ ⟨by omega,by omega⟩,b,c,opn,wr,k1,⟨k2,k2'⟩,k3,by omega,hf.ch _ _ _ _ _ k4 (by omega) (by decide) k5,k6,k7⟩,h.bl⟩
theorem DrI.chg{M':FM}{N':Nat}(h:DrI i Fa fl vs tb pb M N)(hf:Chg i M M' N N'):DrI i Fa fl vs tb pb M' N':=by
 obtain⟨dur,ps,es,bs,t,h,h1⟩:=h
 exact⟨dur,ps,es,bs,t,⟨h.d.chg hf,h.pl,h.con,h.emp,h.ci,h.el⟩,h1⟩
theorem DrvF.chg{M':FM}{N':Nat}{ps:List Op}(h:DrvF i pb M N dur ps)(hf:Chg i M M' N N'):DrvF i pb M' N' dur ps:=by
 obtain⟨h1,h2,h3,h4,h5,h6,h7,h8,h9⟩:=h.dsk.cc.ok
 have hK:=h.dsk.cc.KN
 obtain⟨ev,bv,tv,hr⟩:=h.r
 exact⟨h.dsk.chg hf,ev,bv,tv,hf.ch _ _ _ _ _ (by omega) (by omega) (by decide) hr⟩
def DS(i:Ids)(Fa:Rec->Prop)(fl:Nat->Nat)(vs:List Nat)(tb pb:Nat)(M:FM)(N:Nat)(p:Pw):Prop:=
 DrI i Fa fl vs tb pb M N\/(p.off=true/\∃dur ps,DrvF i pb M N dur ps/\CI Fa fl dur ps/\ps.length<=100000)
theorem DS.ids(h:DS i Fa fl vs tb pb M N p):i.Ok/\i.K<=N/\pb<N/\(i.K<=pb\/pb=i.sd)/\i.Q<N:=by
 rcases h with h|⟨_,dur,ps,h,_⟩
 ·obtain⟨h1,h2,h3,h4,h5,_⟩:=h.ids
  exact⟨h1,h2,h3,h4,h5⟩
 ·exact⟨h.dsk.cc.ok,h.dsk.cc.KN,h.dsk.cc.pbN,h.dsk.cc.pbk,h.dsk.cc.QN⟩
theorem DS.mono{Fa':Rec->Prop}{p:Pw}(h:DS i Fa fl vs tb pb M N p)(hF:∀r,Fa r->Fa' r)(ht:tb<=tb')(hp:p.off=true->p'.off=true):DS i Fa' fl vs tb' pb M N p':=by
 rcases h with h|⟨h0,dur,ps,h,h1,h2⟩
 ·exact .inl (h.mono hF ht)
 ·exact .inr ⟨hp h0,dur,ps,h,h1.mono hF fun _ _=>Nat.le_refl _,h2⟩
theorem DS.chg{M':FM}{N':Nat}(h:DS i Fa fl vs tb pb M N p)(hf:Chg i M M' N N'):DS i Fa fl vs tb pb M' N' p:=by
 rcases h with h|⟨h0,dur,ps,h,h1,h2⟩
 ·exact .inl (h.chg hf)
 ·exact .inr ⟨h0,dur,ps,h.chg hf,h1,h2⟩
theorem DS.far{q:Nat}(h:DS i Fa fl vs tb pb M N p)(hf:Far i M M' N N' q)(hpq:pb≠i.Q)(hQ:i.K<=i.Q\/i.EN<i.Q\/i.Q<i.sd):DS (i.to q) Fa fl vs tb pb M' N' p:=by
 rcases h with h|⟨h0,dur,ps,h,h1,h2⟩
 ·exact .inl (h.far hf hpq hQ)
 ·exact .inr ⟨h0,dur,ps,h.far hf hpq hQ,h1,h2⟩
structure Two(A B:Ids)(FA FB:Rec->Prop)(fA fB:Nat->Nat)(vA vB:List Nat)(tb a b:Nat)(M:FM)(N:Nat)(p:Pw):Prop where
 da:DS (A.to b) FA fA vA tb a M N p
 db:DS (B.to a) FB fB vB tb b M N p
 pw:PwR A.P M p
 pi:PwI p
 ne:a≠b
 P:A.P=B.P
 K:A.K=B.K
 ap:A.EN<B.sd\/B.EN<A.sd
theorem Two.swap(h:Two A B FA FB fA fB vA vB tb a b M N p):Two B A FB FA fB fA vB vA tb b a M N p:=
 ⟨h.db,h.da,h.P▸h.pw,h.pi,h.ne.symm,h.P.symm,h.K.symm,h.ap.symm⟩
theorem Two.ids(h:Two A B FA FB fA fB vA vB tb a b M N p):(A.to b).Ok/\A.K<=N/\a<N/\(A.K<=a\/a=A.sd)/\b<N:=h.da.ids
theorem Two.op{a':Nat}{w:Nat}(h:Two A B FA FB fA fB vA vB tb a b M N p)(hN:N<=N')(hfr:Fr A.P A.sd A.EN a N M M' w)(ha:a'=a\/N<=a')(hd:DS (A.to b) FA' fA' vA' tb' a' M' N' p')(hp:PwR A.P M' p')(hI:PwI p')(hoff:p.off=true->p'.off=true)(ht:tb<=tb'):Two A B FA' FB fA' fB vA' vB tb' a' b M' N' p':=by
 obtain⟨⟨h1,h2,h3,h4,h5,h6,h7,h8,h9⟩,hK,haN,hak,hbN⟩:=h.da.ids
 obtain⟨⟨g1,g2,g3,g4,g5,g6,g7,g8,g9⟩,gK,gbN,gbk,gaN⟩:=h.db.ids
 obtain⟨_,_,ha'N,_⟩:=hd.ids
 have hne:=h.ne
 have e1:=h.P
 have e2:=h.K
 have e3:=h.ap
 simp only[Ids.to]at h1 h2 h3 h4 h5 h6 h7 h8 h9 hK haN hak hbN g1 g2 g3 g4 g5 g6 g7 g8 g9 gK gbN gbk gaN
 refine⟨hd,?_,hp,hI,by omega,e1,e2,e3⟩
 have hF:Far (B.to a) M M' N N' a':=⟨⟨A.sd,A.EN,by simp only[Ids.to];omega,by simp only[Ids.to];omega,fun x k1 k2 k3 k4=>(hfr x k1 (by rw[e1];exact k2) k3 k4).1⟩,hN,ha,ha'N⟩
 exact(h.db.far hF (Ne.symm hne) (by simp only[Ids.to];omega)).mono (fun _ h=>h) ht hoff
theorem Two.chg{M':FM}{N':Nat}(h:Two A B FA FB fA fB vA vB tb a b M N p)(hN:N<=N')(hc:∀x c s o w,x<N->¬(A.EN<x/\B.EN<x/\x<A.K)->s≠10->M x=some (.cells c s o w)->M' x=some (.cells c s o w)):Two A B FA FB fA fB vA vB tb a b M' N' p:=by
 obtain⟨⟨h1,h2,h3,h4,h5,h6,h7,h8,h9⟩,hK,haN,hak,hbN⟩:=h.da.ids
 have e2:=h.K
 simp only[Ids.to]at h1 h2 h3 h4 h5 h6 h7 h8 h9 hK haN hak hbN
 refine⟨h.da.chg ⟨hN,fun x c s o w k1 k2 k3 k4=>hc x c s o w k1 (fun k=>k2 ⟨k.1,k.2.2⟩) k3 k4⟩,h.db.chg ⟨hN,fun x c s o w k1 k2 k3 k4=>hc x c s o w k1 (fun k=>k2 ⟨k.2.1,by simp only[Ids.to];omega⟩) k3 k4⟩,hc _ _ _ _ _ (by omega) (by omega) (by decide) h.pw,h.pi,h.ne,h.P,h.K,h.ap⟩
theorem Two.mono{FA':Rec->Prop}{p:Pw}(h:Two A B FA FB fA fB vA vB tb a b M N p)(hF:∀r,FA r->FA' r):Two A B FA' FB fA fB vA vB tb a b M N p:=
 ⟨h.da.mono hF (Nat.le_refl _) id,h.db,h.pw,h.pi,h.ne,h.P,h.K,h.ap⟩
def Mw(A B:Ids)(FA FB:Rec->Prop)(fA fB:Nat->Nat)(vA vB:List Nat)(tb a b:Nat)(m:FM)(n:Nat)(m':FM)(n' w:Nat):Prop:=
 n<=n'/\Fr A.P A.sd A.EN a n m m' w/\∃a' p',(a'=a\/n<=a')/\Two A B FA FB fA fB vA vB tb a' b m' n' p'
theorem Two.fail(h:Two A B FA FB fA fB vA vB tb a b M N p)(hN:N<=N')(hfr:Fr A.P A.sd A.EN a N M M' w)(hf:zn (A.to b) FA' fA' a N M' N')(ht:tb<=tb'):Mw A B FA' FB fA' fB vA' vB tb' a b M N M' N' w:=by
 obtain⟨p',q1,q2,a',q3,q4⟩:=hf
 exact⟨hN,hfr,a',p',q3,h.op hN hfr q3 (.inr ⟨q2.1,q4⟩) q1 (.inr q2) (fun _=>q2.1) ht⟩
theorem Fm(hU:YUp Y)(hFt:∀r t,FA r->FA {r with tm:=t}){n:Nat}(h:Two A B FA FB fA fB vA vB tb a b m n p)(htb:tb<=50000){ds:List Nat}(hok:Rec.Ok ⟨1,k,ver,ds,tm⟩)(hFa:FA ⟨1,k,ver,ds,tm⟩)(hv2:∀v,vA[k]?=some v->v<=ver):
  Rt (df PG EL Y 9 [.pointer (some ⟨A.R,0,none⟩),.int .i64 (k:Int),.int .u64 (ver:Int),.agg (n8s ds).toArray] m n) fun r m' n' w=>Mw A B FA FB fA fB (vA.set k ver) vB (tb+400) a b m n m' n' w:=by
 rcases h.da with hd|⟨ho,dur,ps,hd,hci,hl⟩
 ·refine(A8 hU hFt hd h.pw h.pi htb hok hFa hv2).mono fun r m' n' w hh=>?_
  obtain⟨_,q1,q2,q3⟩:=hh
  rcases q3 with⟨rfl,r1,p',a',r2,r3,r4,r5⟩|⟨rfl,r1⟩
  ·exact⟨q1,q2,a',p',r2,h.op q1 q2 r2 (.inl r5) r3 r4.1 (fun e=>by rw[r1]at e;cases e) (by omega)⟩
  ·exact h.fail q1 q2 r1 (by omega)
 ·obtain⟨⟨h1,h2,h3,h4,h5,h6,h7,h8,h9⟩,hK,_⟩:=h.da.ids
  obtain⟨ev,bv,tv,hr⟩:=hd.r
  simp only[Ids.to]at h1 h2 h3 h4 h5 h6 h7 h8 h9 hK
  refine Rt.lU (Kl (show A.R<n by omega) hr hok) ⟨Nat.le_refl _,fun x _ _ _ _=>⟨rfl,Nat.zero_testBit _⟩,a,p,.inl rfl,?_⟩
  exact⟨.inr ⟨ho,dur,ps,hd,hci,hl⟩,h.db.mono (fun _ h=>h) (by omega) id,h.pw,h.pi,h.ne,h.P,h.K,h.ap⟩
theorem GC(hU:YUp Y)(hFt:∀r t,FA r->FA {r with tm:=t}){n:Nat}(h:Two A B FA FB fA fB vA vB tb a b m n p)(htb:tb<=50000)(hok:Rec.Ok ⟨2,k,ver,oh,tm⟩)(hFa:FA ⟨2,k,ver,oh,tm⟩)(hv2:∀v,vA[k]?=some v->v<=ver):
  Rt (df PG EL Y 10 [.pointer (some ⟨A.R,0,none⟩),.int .i64 (k:Int),.int .u64 (ver:Int)] m n) fun r m' n' w=>Mw A B FA FB fA fB (vA.set k ver) vB (tb+400) a b m n m' n' w:=by
 rcases h.da with hd|⟨ho,dur,ps,hd,hci,hl⟩
 ·refine(CN hU hFt hd h.pw h.pi htb hok hFa hv2).mono fun r m' n' w hh=>?_
  obtain⟨_,q1,q2,q3⟩:=hh
  rcases q3 with⟨rfl,r1,p',a',r2,r3,r4,r5⟩|⟨rfl,r1⟩
  ·exact⟨q1,q2,a',p',r2,h.op q1 q2 r2 (.inl r5) r3 r4.1 (fun e=>by rw[r1]at e;cases e) (by omega)⟩
  ·exact h.fail q1 q2 r1 (by omega)
 ·obtain⟨⟨h1,h2,h3,h4,h5,h6,h7,h8,h9⟩,hK,_⟩:=h.da.ids
  obtain⟨ev,bv,tv,hr⟩:=hd.r
  simp only[Ids.to]at h1 h2 h3 h4 h5 h6 h7 h8 h9 hK
  refine Rt.lU (NQ (show A.R<n by omega) hr hok) ⟨Nat.le_refl _,fun x _ _ _ _=>⟨rfl,Nat.zero_testBit _⟩,a,p,.inl rfl,?_⟩
  exact⟨.inr ⟨ho,dur,ps,hd,hci,hl⟩,h.db.mono (fun _ h=>h) (by omega) id,h.pw,h.pi,h.ne,h.P,h.K,h.ap⟩
theorem Fo(hU:YUp Y)(hFt:∀r t,FA r->FA {r with tm:=t}){n:Nat}(h:Two A B FA FB fA fB vA vB tb a b m n p)(htb:tb<=50000):
  Rt (df PG EL Y 12 [.pointer (some ⟨A.R,0,none⟩)] m n) fun r m' n' w=>(∃x y:Int,r=.tuple #[.int .i64 x,.int .i64 y])/\Mw A B FA FB fA fB vA vB (tb+400) a b m n m' n' w:=by
 rcases h.da with hd|⟨ho,dur,ps,hd,hci,hl⟩
 ·refine(A' hU hFt hd h.pw h.pi htb).mono fun r m' n' w hh=>?_
  obtain⟨q1,q2,q0,q3⟩:=hh
  refine⟨q0,?_⟩
  rcases q3 with⟨p',a',r2,r3,r4,r5⟩|r1
  ·exact⟨q1,q2,a',p',r2,h.op q1 q2 r2 (.inl r5) r3 r4.1 (fun e=>by rw[r4.2.1];exact e) (by omega)⟩
  ·exact h.fail q1 q2 r1 (by omega)
 ·obtain⟨⟨h1,h2,h3,h4,h5,h6,h7,h8,h9⟩,hK,_⟩:=h.da.ids
  obtain⟨ev,bv,tv,hr⟩:=hd.r
  simp only[Ids.to]at h1 h2 h3 h4 h5 h6 h7 h8 h9 hK
  refine Rt.lU (LA (show A.R<n by omega) hr) ⟨⟨_,_,rfl⟩,Nat.le_refl _,fun x _ _ _ _=>⟨rfl,Nat.zero_testBit _⟩,a,p,.inl rfl,?_⟩
  exact⟨.inr ⟨ho,dur,ps,hd,hci,hl⟩,h.db.mono (fun _ h=>h) (by omega) id,h.pw,h.pi,h.ne,h.P,h.K,h.ap⟩
def TwoF(A B:Ids)(FA FB:Rec->Prop)(fA fB:Nat->Nat)(vA vB:List Nat)(tb a b:Nat)(p:Pw)(m:FM)(n:Nat)(r:Value)(m':FM)(n' w:Nat):Prop:=
 n<=n'/\Fr A.P A.sd A.EN a n m m' w/\∃a' p',(a'=a\/n<=a')/\((r=.int .i64 0/\¬p.due/\vA.length=6/\Two A B FA FB (flV vA) fB vA vB tb a' b m' n' p')\/(r=.int .i64 13/\p'.off=true/\Two A B FA FB fA fB vA vB tb a' b m' n' p'))
theorem wg(hU:YUp Y){n:Nat}(h:Two A B FA FB fA fB vA vB tb a b m n p)(htb:tb<=50000):
  Rt (df PG EL Y 11 [.pointer (some ⟨A.R,0,none⟩)] m n) fun r m' n' w=>TwoF A B FA FB fA fB vA vB tb a b p m n r m' n' w:=by
 rcases h.da with hd|⟨ho,dur,ps,hd,hci,hl⟩
 ·have hv6:=hd.ids.2.2.2.2.2
  refine(A9 hU hd h.pw h.pi htb).mono fun r m' n' w hh=>?_
  obtain⟨_,q1,q2,q3⟩:=hh
  rcases q3 with⟨rfl,r1,r0,p',a',r2,r3,r4,r5⟩|⟨rfl,r1⟩
  ·exact⟨q1,q2,a',p',r2,.inl ⟨rfl,r0,hv6,h.op q1 q2 r2 (.inl r5) r3 r4.1 (fun e=>by rw[r1]at e;cases e) (Nat.le_refl _)⟩⟩
  ·obtain⟨p',s1,s2,a',s3,s4⟩:=r1
   exact⟨q1,q2,a',p',s3,.inr ⟨rfl,s2.1,h.op q1 q2 s3 (.inr ⟨s2.1,s4⟩) s1 (.inr s2) (fun _=>s2.1) (Nat.le_refl _)⟩⟩
 ·obtain⟨⟨h1,h2,h3,h4,h5,h6,h7,h8,h9⟩,hK,_⟩:=h.da.ids
  obtain⟨ev,bv,tv,hr⟩:=hd.r
  simp only[Ids.to]at h1 h2 h3 h4 h5 h6 h7 h8 h9 hK
  exact Rt.lU (Lk (show A.R<n by omega) hr) ⟨Nat.le_refl _,fun x _ _ _ _=>⟨rfl,Nat.zero_testBit _⟩,a,p,.inl rfl,.inr ⟨rfl,ho,h⟩⟩
theorem Two.dsk{b:Nat}(h:Two A B FA FB fA fB vA vB tb a b M N p)(htb:tb<=50000):∃dur ps,Dsk (A.to b) a M N dur ps/\CI FA fA dur ps/\ps.length<=100000:=by
 rcases h.da with⟨dur,ps,es,bs,t,hd,_,_,_,h1,h2⟩|⟨_,dur,ps,hd,hci,hl⟩
 ·exact⟨dur,ps,hd.d.dsk,hd.ci,by omega⟩
 ·exact⟨dur,ps,hd.dsk,hci,hl⟩
end Go.Am.CD
