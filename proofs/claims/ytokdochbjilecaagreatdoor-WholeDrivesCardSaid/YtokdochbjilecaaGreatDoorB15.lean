/- The machine and its runs, part 15: AyQc AyQd AyQe AyQf AyQg AxMapW AyQh AyQi AyQj AyQk AyQl. -/
import Derived.Test.YtokdochbjilecaaGreatDoorB14
set_option linter.unusedVariables false
set_option linter.unusedSimpArgs false
set_option linter.unusedSectionVars false
namespace Go.Am.CD
set_option maxRecDepth 1000000
open Go Go.Am Go.RowKit Go.ChangeMaps Classical
variable{n r mb B n' n2 r2 w2 nI d r' w' n1 t k F i3 f:Nat}{m m1 m' m2:FM}{v v' x:Value}{e args e2:List Value}{w:World}
section
variable{Y:Nat->List Value->FM->Nat->OR FM}
noncomputable def qO(Y:Nat->List Value->FM->Nat->OR FM)(x:Value)(e:List Value)(m:FM)(n:Nat):CR FM:=fY (gD PG Y yu (x::e) m n 0 0) (fI (dt PG EL Y sO))
noncomputable def jJ(mb nI:Nat)(f:List Value->FM->Nat->CR FM):CR FM->CR FM
 | .ok .norm e m n r w=>if w.testBit mb=false/\e[14]?=some (iU nI)then fP r w (f e m n)else .no
 |_=>.no
noncomputable def gv(Y:Nat->List Value->FM->Nat->OR FM)(mb nI:Nat):List (Value×Value)->List Value->FM->Nat->CR FM
 |[],e,m,n=>.ok .norm e m n 0 0
 |x::l,e,m,n=>jJ mb nI (gv Y mb nI l) (qO Y x.2 e m n)
theorem me{x:Value×Value}{l:List (Value×Value)}{X:AX}(h:gv Y mb nI (x::l) e m n=.ok X e2 m2 n2 r2 w2):
  ∃e1 m1 n1 r1 w1 r3 w3,qO Y x.2 e m n=.ok .norm e1 m1 n1 r1 w1/\(w1.testBit mb=false/\e1[14]?=some (iU nI))/\gv Y mb nI l e1 m1 n1=.ok X e2 m2 n2 r3 w3/\r2=Nat.lor r1 r3/\w2=Nat.lor w1 w3:=by
 replace h:jJ mb nI (gv Y mb nI l) (qO Y x.2 e m n)=.ok X e2 m2 n2 r2 w2:=h
 cases hr:qO Y x.2 e m n with
 |no=>rw[hr]at h;cases h
 |ok X1 e1 m1 n1 r1 w1=>
  rw[hr]at h
  cases X1 with
  |norm=>
   replace h:(if w1.testBit mb=false/\e1[14]?=some (iU nI)then fP r1 w1 (gv Y mb nI l e1 m1 n1)else CR.no)=.ok X e2 m2 n2 r2 w2:=h
   split at h
   ·rename_i hw
    obtain⟨r3,w3,h3,rfl,rfl⟩:=qt h
    exact⟨e1,m1,n1,r1,w1,r3,w3,rfl,hw,h3,rfl,rfl⟩
   ·cases h
  |_=>cases h
theorem ri:∀{d l:List (Value×Value)} {e:List Value} {m:FM} {n:Nat} {X:AX} {e2:List Value} {m2:FM} {n2 r2 w2:Nat},gv Y mb nI (d++l) e m n=.ok X e2 m2 n2 r2 w2->
  ∃e1 m1 n1 r1 w1 r3 w3,gv Y mb nI d e m n=.ok .norm e1 m1 n1 r1 w1/\gv Y mb nI l e1 m1 n1=.ok X e2 m2 n2 r3 w3/\r2=Nat.lor r1 r3/\w2=Nat.lor w1 w3
 |[],l,e,m,n,X,e2,m2,n2,r2,w2,h=>⟨e,m,n,0,0,r2,w2,rfl,h,(dx _).symm,(dx _).symm⟩
 |x::d,l,e,m,n,X,e2,m2,n2,r2,w2,h=>by
  obtain⟨e1,m1,n1,r1,w1,r3,w3,h1,h2,h3,rfl,rfl⟩:=me (l:=d++l) h
  obtain⟨e4,m4,n4,r4,w4,r5,w5,h4,h5,rfl,rfl⟩:=ri h3
  refine⟨e4,m4,n4,Nat.lor r1 r4,Nat.lor w1 w4,r5,w5,?_,h5,(Nat.or_assoc ..).symm,(Nat.or_assoc ..).symm⟩
  show jJ mb nI (gv Y mb nI d) (qO Y x.2 e m n)=_
  rw[h1]
  show(if w1.testBit mb=false/\e1[14]?=some (iU nI)then fP r1 w1 (gv Y mb nI d e1 m1 n1)else CR.no)=_
  rw[if_pos h2,h4]
  rfl
theorem F0{d:List (Value×Value)}{x:Value×Value}{e1:List Value}{r1 w1:Nat}(h1:gv Y mb nI d e m n=.ok .norm e1 m1 n1 r1 w1)(h2:qO Y x.2 e1 m1 n1=.ok .norm e2 m2 n2 r2 w2)(hw:w2.testBit mb=false/\e2[14]?=some (iU nI)):
  gv Y mb nI (d++[x]) e m n=.ok .norm e2 m2 n2 (Nat.lor r1 r2) (Nat.lor w1 w2):=by
 induction d generalizing e m n r1 w1 with
 |nil=>
  injection h1 with q1 q2 q3 q4 q5 q6
  subst q2;subst q3;subst q4;subst q5;subst q6
  show jJ mb nI (gv Y mb nI []) (qO Y x.2 e m n)=_
  rw[h2]
  show(if w2.testBit mb=false/\e2[14]?=some (iU nI)then fP r2 w2 (gv Y mb nI [] e2 m2 n2)else CR.no)=_
  rw[if_pos hw,dx,dx]
  show CR.ok AX.norm e2 m2 n2 (Nat.lor r2 0) (Nat.lor w2 0)=_
  rw[dZ,dZ]
 |cons y d ih=>
  obtain⟨e3,m3,n3,r3,w3,r4,w4,g1,g2,g3,rfl,rfl⟩:=me h1
  show jJ mb nI (gv Y mb nI (d++[x])) (qO Y y.2 e m n)=_
  rw[g1]
  show(if w3.testBit mb=false/\e3[14]?=some (iU nI)then fP r3 w3 (gv Y mb nI (d++[x]) e3 m3 n3)else CR.no)=_
  rw[if_pos g2,ih g3]
  show CR.ok AX.norm e2 m2 n2 (Nat.lor r3 (Nat.lor r4 r2)) (Nat.lor w3 (Nat.lor w4 w2))=_
  rw[show Nat.lor r3 (Nat.lor r4 r2)=Nat.lor (Nat.lor r3 r4) r2 from(Nat.or_assoc ..).symm,show Nat.lor w3 (Nat.lor w4 w2)=Nat.lor (Nat.lor w3 w4) w2 from(Nat.or_assoc ..).symm]
theorem DG(hY:ew Y){X:AX}(h:qO Y x e m n=.ok X e2 m2 n2 r2 w2):Loc m n m2 n2 w2:=by
 obtain⟨X1,e1,m1,n1,r1,w1,h1,h2⟩:=fj h
 have l1:Loc m n m1 n1 w1:=by
  have:=mY (P:=PG) (rec:=Y) hY yu (x::e) m n 0 0 X1 e1 m1 n1 r1 w1 h1
  obtain⟨_,W,_,hW,hl⟩:=this
  rw[dx]at hW
  subst hW
  exact hl
 rcases jF h2 with⟨rfl,r2,w2,h3,rfl,rfl⟩|⟨hne,rfl,rfl,rfl,rfl,rfl,rfl⟩
 ·obtain⟨k,hk⟩:=il h3
  exact l1.trans (fO (P:=PG) (E:=EL) (Y:=Y) hY k _ _ _ _ _ _ _ _ _ _ hk)
 ·exact l1
theorem qf(hY:ew Y):∀{l:List (Value×Value)} {e:List Value} {m:FM} {n:Nat} {X:AX} {e2:List Value} {m2:FM} {n2 r2 w2:Nat},gv Y mb nI l e m n=.ok X e2 m2 n2 r2 w2->Loc m n m2 n2 w2/\w2.testBit mb=false
 |[],e,m,n,X,e2,m2,n2,r2,w2,h=>by
  injection h with q1 q2 q3 q4 q5 q6
  subst q3;subst q4;subst q6
  exact⟨Loc.refl _ _,Nat.zero_testBit _⟩
 |x::l,e,m,n,X,e2,m2,n2,r2,w2,h=>by
  obtain⟨e1,m1,n1,r1,w1,r3,w3,h1,h2,h3,rfl,rfl⟩:=me h
  obtain⟨i1,i2⟩:=qf hY h3
  exact⟨(DG hY h1).trans i1,by rw[c9,h2.1,i2];rfl⟩
def mO(es:List (Value×Value))(es':Array MapEntry)(seen:Array Nat):List (Value×Value):=((es.zip es'.toList).filter fun z=>!seen.contains z.2.born).map (·.1)
theorem Ca{es:List (Value×Value)}{es':Array MapEntry}(h:es.length=es'.toList.length):mO es es' #[]=es:=by
 unfold mO
 rw[List.filter_eq_self.2 (by simp),List.map_fst_zip (by omega)]
theorem Hd{es:List (Value×Value)}{es':Array MapEntry}{seen:Array Nat}(h:(leftOf es' seen).size=0):mO es es' seen=[]:=by
 unfold mO
 rw[List.filter_eq_nil_iff.2 fun z hz=>?_]
 ·rfl
 ·have:=all_seen es' seen h z.2 (List.of_mem_zip hz).2
  simpa using this
theorem qP{es:List (Value×Value)}{es':Array MapEntry}{seen:Array Nat}(hl:es.length=es'.toList.length)(hn:(es'.toList.map (·.born)).Nodup){x:MapEntry}(hx:x∈(leftOf es' seen).toList):
  ∃(j:Nat) (y:Value×Value),es'.toList[j]?=some x/\es[j]?=some y/\(mO es es' seen).Perm (y::mO es es' (seen.push x.born)):=by
 have hm:x∈es'.toList/\seen.contains x.born=false:=by
  unfold leftOf at hx
  simpa using hx
 obtain⟨j,hj,hjx⟩:=List.mem_iff_getElem.1 hm.1
 have hj':j<es.length:=by omega
 refine⟨j,es[j],by rw[List.getElem?_eq_getElem hj,hjx],List.getElem?_eq_getElem hj',?_⟩
 have hz:(es[j],x)∈es.zip es'.toList:=by
  rw[List.mem_iff_getElem]
  exact⟨j,by simp;simp at hj;omega,by simp[<-hjx]⟩
 have hnd:((es.zip es'.toList).map fun z:(Value×Value)×MapEntry=>z.2.born).Nodup:=by
  have:(es.zip es'.toList).map (fun z:(Value×Value)×MapEntry=>z.2.born)=es'.toList.map (·.born):=by
   rw[show(fun z:(Value×Value)×MapEntry=>z.2.born)=(fun e:MapEntry=>e.born) ∘ Prod.snd from rfl,<-List.map_map,List.map_snd_zip (by omega)]
  rw[this];exact hn
 have:=(uG (fun z:(Value×Value)×MapEntry=>z.2.born) (p:=fun z=>!seen.contains z.2.born) hnd hz (by simpa using hm.2)).map (·.1)
 refine this.trans ?_
 unfold mO
 rw[List.map_cons]
 refine List.Perm.of_eq ?_
 congr 2
 refine List.filter_congr fun z _=>?_
 by_cases h:z.2.born=x.born<;>simp[h]
end
open Go Go.Am Go.RowKit Go.ChangeMaps
section
variable{Y:Nat->List Value->FM->Nat->OR FM}
theorem nS{a:Act}(h:d<a.tmps.size):(a.put (some d) v).tmps[d]?=some v:=by
 show(a.tmps.setIfInBounds d v)[d]?=some v
 simp[h]
theorem ub{a:Act}(h:d≠t):(a.put (some d) v).tmps[t]?=a.tmps[t]?:=by
 show(a.tmps.setIfInBounds d v)[t]?=_
 rw[Array.getElem?_setIfInBounds_ne h]
theorem kQ{a:Act}{d:Nat}:(a.put (some d) v).tmps.size=a.tmps.size:=by
 show(a.tmps.setIfInBounds d v).size=_
 simp
theorem k9{a:Act}(h:a.tmps[t]?=some v):a.eval (.tmp t)=v:=by
 show a.tmps.getD t undef=v
 rw[Array.getD_eq_getD_getElem?,h];rfl
theorem wu{o:Obj}(h:k≠r):(setBlock w r o).heap[k]?=w.heap[k]?:=by
 simp[setBlock,Array.getElem?_setIfInBounds_ne (Ne.symm h)]
theorem GW{o:Obj}(h:r<w.heap.size):(setBlock w r o).heap[r]?=some o:=by
 simp[setBlock,h]
theorem wv{o:Obj}(h:B<=r):Below B w (setBlock w r o):=⟨rfl,rfl,rfl,by simp[setBlock],fun k hk=>wu (by omega)⟩
theorem dy(a b c:Nat):Nat.lor (Nat.lor a b) c=Nat.lor a (Nat.lor b c):=Nat.or_assoc ..
theorem B8(hY:ew Y)(hYs:eQ PG Y)(hC:∀k,kK FM PG EL Y k){o3:Array Oper}{cB:Code}(h3:o3.size=4)(h30:oK o3 0 114 (.entry (.tmp 111)))(h31:oK o3 1 115 (.extract (.tmp 114) 1))(h32:j4 PG 140 o3 (o3.toList.drop 2) ([115]::GfS) yu=some ([22]::[115]::GfS))
  (hcB:okB (chk PG 140 Proofs.Tryz.f40.results [] ([22]::[115]::GfS) cB sO)=true) (h:qO Y x e m n=.ok .norm e2 m2 n2 r2 w2)
  {ρ:Ren} {V:Nat->Option Blk} {B:Nat} {a:Act} (hd:a.defers=[]) (hs:a.tmps.size=140) (he:dI ρ GfS e a.tmps) (hF:Sub (Nat.lor r2 w2) F) (hag:eI V m n F) (hm:MRel ρ V w B) (hfree:gI ρ n)
  {r:Nat} {key x':Value} (hit:a.tmps[111]?=some (.pointer (some ⟨r,0,none⟩))) (hx:VRel ρ x x') (hrun:(Instr.entry (.pointer (some ⟨r,0,none⟩))).run PG w=.ok (.tuple #[key,x']) w)
  {Q:Exit->Act->World->Prop} (hk:∀a' w' ρ',a'.defers=[]->a'.tmps.size=140->Post ρ V w B n m2 n2 w2 ρ' w'->dI ρ' GfS e2 a'.tmps->Q .normal a' w'):(Code.seq (.region i3 o3 false) cB).wp PG Q a w:=by
 obtain⟨X1,e1,m1,n1,r1,w1,q1,q2⟩:=fj h
 have hlo:=mY (P:=PG) (rec:=Y) hY yu (x::e) m n 0 0 X1 e1 m1 n1 r1 w1 q1
 have hsim:=yr (nt:=140) (ops:=o3) (Γe:=[22]::[115]::GfS) hYs hY yu (o3.toList.drop 2) 2 ([115]::GfS) (x::e) m n 0 0 X1 e1 m1 n1 r1 w1 rfl h32 q1
 obtain⟨rfl,W,hW,hl,hsim⟩:=hsim
 rw[dx]at hW
 subst hW
 rcases jF q2 with⟨_,r3,w3,h4,rfl,rfl⟩|⟨hne,_⟩
 ·obtain⟨k,hk4⟩:=il h4
  have l2:=fO (P:=PG) (E:=EL) (Y:=Y) hY k _ _ _ _ _ _ _ _ _ _ hk4
  refine wp_seq (wp_region ?_)
  rw[h3,show List.range 4=[0,1,2,3]from rfl]
  refine oG (v:=.tuple #[key,x']) (w':=w) h30 (fun o ho=>?_) (oG (v:=x') (w':=w) h31 (fun o ho=>?_) ?_)
  ·simp[execOp,ho,k9 hit,hrun,Result.andThen]
  ·have:(a.put (some 114) (.tuple #[key,x'])).eval (.tmp 114)=.tuple #[key,x']:=k9 (nS (by omega))
   simp[execOp,ho,this,Instr.extract,Result.andThen]
  ·have henv:dI ρ ([115]::GfS) (x::e) (((a.put (some 114) (.tuple #[key,x'])).put (some 115) x').tmps):=by
    have:=(mg he (d:=114) (by rfl) (.tuple #[key,x'])).push (d:=115) hx (by simp;omega)
    exact this
   have hlen:(o3.toList.drop 2).length=2:=by simp[h3]
   have:=hsim ρ V w B F ((a.put (some 114) (.tuple #[key,x'])).put (some 115) x') hd (by rw[kQ,kQ];exact hs) henv (Sub.trans (Sub.lor (Sub.trans (Sub.left r1 r3) (Sub.left _ _)) (Sub.trans (Sub.left w1 w3) (Sub.right _ _))) hF) hag hm hfree
   rw[hlen,show List.range' 2 2=[2,3]from rfl]at this
   refine lN (fun ex a' w' hq=>?_) _ _ _ this
   obtain⟨ρ',rfl,g2,g3,g4,g5⟩:=hq
   cases hG:chk PG 140 Proofs.Tryz.f40.results [] ([22]::[115]::GfS) cB sO with
   |none=>rw[hG]at hcB;cases hcB
   |some Γo=>
    rw[hG]at hcB
    cases Γo with
    |none=>cases hcB
    |some Γo=>
     replace hcB:leC GfS Γo=true:=hcB
     show cB.wp PG Q a' w'
     refine wp_mono (hC k 140 _ sO cB [] _ _ e1 m1 n1 .norm e2 m2 n2 r3 w3 hG hk4 ρ' (upd V w1 m1) w' B F a' g2 g3 g4 (Sub.trans (Sub.lor (Sub.trans (Sub.right r1 r3) (Sub.left _ _)) (Sub.trans (Sub.right w1 w3) (Sub.right _ _))) hF) (hag.step hl) g5.mrel (hfree.next g5)) fun ex a2 w2' hq=>?_
     obtain⟨ρ2,p1,p2,p3,rfl,Γ',p5,p6⟩:=hq
     injection p5 with p5
     subst p5
     exact hk a2 w2' ρ2 p1 p2 (g5.trans p3 l2) (p6.le hcB)
 ·exact absurd rfl hne
end
section
variable{Y:Nat->List Value->FM->Nat->OR FM}
theorem CO(B:Nat)(w:World):Below B w w.drew:=(Below.refl B w).drew
theorem t159:∃k e,PG.underlying 159=some (.map k e):=⟨_,_,rfl⟩
def itP(w:World):Place:=⟨w.heap.size,0,0,0⟩
theorem Post.iter{ρ:Ren}{V:Nat->Option Blk}{m:FM}(hm:MRel ρ V w B)(hfree:gI ρ n)(o:Obj):
  Post ρ V w B n (AMem.put m n none) (n+1) (bit n) (fun b=>if b=n then some (itP w)else ρ b) (w.alloc o):=by
 have hle:Ren.le ρ (fun b=>if b=n then some (itP w)else ρ b):=fun b p h=>by
  have:b≠n:=by rintro rfl;rw[hfree b (Nat.le_refl _)]at h;cases h
  simp[this,h]
 have hb:Below B w (w.alloc o):=(Below.refl B w).alloc hm.le o
 have hV:∀{b:Nat} {O:Blk},upd V (bit n) (AMem.put m n none) b=some O->b≠n/\V b=some O:=fun{b O} h=>by
  by_cases e:b=n
  ·subst e
   unfold upd at h
   rw[dn,decide_eq_true rfl,if_pos rfl,AMem.get_put m b b _ rfl,if_pos rfl]at h
   cases h
  ·unfold upd at h
   rw[dn,decide_eq_false (Ne.symm e)]at h
   exact⟨e,by simpa using h⟩
 refine⟨hle,fun b p h=>?_,⟨fun b p O h1 h2=>?_,fun b1 b2 p1 p2 O1 O2 h1 h2 h3 h4 hne hwr=>?_,fun b p h=>?_,Nat.le_trans hm.le hb.size,hm.gl.mono hb⟩,hb,Nat.le_succ _,fun k hk _=>Below.heap_alloc w o k hk,fun b p h=>?_,fun b h=>?_⟩
 ·by_cases e:b=n
  ·exact .inr ⟨by omega,by omega⟩
  ·simp only[e,if_false]at h;exact .inl h
 ·obtain⟨e,h3⟩:=hV h2
  simp only[e,if_false]at h1
  exact(hm.blk b p O h1 h3).mono hle (Below.heap_alloc w o p.blk (hm.fresh b p h1))
 ·obtain⟨e1,h3⟩:=hV h3
  obtain⟨e2,h4⟩:=hV h4
  simp only[e1,if_false]at h1
  simp only[e2,if_false]at h2
  exact hm.excl b1 b2 p1 p2 O1 O2 h1 h2 h3 h4 hne hwr
 ·have hsz:(w.alloc o).heap.size=w.heap.size+1:=by simp
  by_cases e:b=n
  ·simp only[e,if_true]at h
   injection h with h
   subst h
   show w.heap.size<_
   omega
  ·simp only[e,if_false]at h
   have:=hm.fresh b p h
   omega
 ·by_cases e:b=n
  ·simp only[e,if_true]at h
   injection h with h
   subst h
   exact .inr (.inl (Nat.le_refl _))
  ·simp only[e,if_false]at h;exact .inl h
 ·rw[dn,decide_eq_true_eq]at h
  subst h
  exact⟨⟨_,if_pos rfl⟩,fun h=>absurd h (Nat.lt_irrefl _)⟩
theorem DP{ρ:Ren}{tmps:Array Value}{p:Place}(he:dI ρ GfS e tmps)(h:e[14]?=some (iU n))(hp:ρ n=some p)(h1:p.blk=r)(h2:p.base=0):tmps[111]?=some (.pointer (some ⟨r,0,none⟩)):=by
 obtain⟨x,y,g1,g2,g3⟩:=he 14 111 rfl
 rw[h]at g1
 injection g1 with g1
 subst g1
 rw[g2]
 cases g3 with
 |flat hf=>simp[flat,iU]at hf
 |ptr hq=>
  rw[hp]at hq
  injection hq with hq
  subst hq
  rw[h1,h2]
theorem Cd(hY:ew Y)(hYs:eQ PG Y)(hC:∀k,kK FM PG EL Y k){o1 o2 o3:Array Oper}{i1 i2:Nat}{cB cC:Code}(h1:o1.size=2)(h10:oK o1 0 110 (.move (.tmp 10)))(h11:oK o1 1 111 (.range 159 (.tmp 110)))
  (h2:o2.size=2) (h20:oK o2 0 112 (.next (.tmp 111) false)) (h21:oK o2 1 113 (.extract (.tmp 112) 0)) (h3:o3.size=4) (h30:oK o3 0 114 (.entry (.tmp 111))) (h31:oK o3 1 115 (.extract (.tmp 114) 1)) (h32:j4 PG 140 o3 (o3.toList.drop 2) ([115]::GfS) yu=some ([22]::[115]::GfS))
  (hcB:okB (chk PG 140 Proofs.Tryz.f40.results [] ([22]::[115]::GfS) cB sO)=true)
  {ρ:Ren} {V:Nat->Option Blk} {B:Nat} {a:Act} {e:List Value} {m:FM} {n mb:Nat} {es:List (Value×Value)} (hd:a.defers=[]) (hs:a.tmps.size=140) (he:dI ρ GeS e a.tmps) (hel:e.length=14) (hm:MRel ρ V w B) (hfree:gI ρ n)
  (hmb:e[4]?=some (.map (some mb))) (hV:V mb=some (.map es)) (hmn:mb<n) (hag:∀σ,σ.Perm es->∃e2 m2 n2 r2 w2,gv Y mb n σ (e++[iU n]) (AMem.put m n none) (n+1)=.ok .norm e2 m2 n2 r2 w2/\eI V m n (Nat.lor r2 w2))
  {Q:Exit->Act->World->Prop} (hk:∀σ e2 m2 n2 r2 w2 a' w' ρ',σ.Perm es->gv Y mb n σ (e++[iU n]) (AMem.put m n none) (n+1)=.ok .norm e2 m2 n2 r2 w2->a'.defers=[]->a'.tmps.size=140->Post ρ V w B n m2 n2 (Nat.lor (bit n) w2) ρ' w'->dI ρ' GfS e2 a'.tmps->cC.wp PG Q a' w'):
  (Code.seq (.seq (.region i1 o1 false) (.block 2 (.loop (.seq (.region i2 o2 false) (.seq (.cond (.tmp 113) .skip (.exit 2)) (.block 3 (.seq (.region i3 o3 false) cB))))))) cC).wp PG Q a w:=by
 obtain⟨x4,y4,q1,q2,q3⟩:=he 4 10 rfl
 rw[hmb]at q1
 injection q1 with q1
 subst q1
 cases q3 with
 |flat hf=>simp[flat]at hf
 |map hp=>
 rename_i p
 obtain⟨hBp,es',clock,hheap,hkeys,hvals,hbn⟩:=hm.blk mb p (.map es) hp hV
 have hlen:es.length=es'.toList.length:=by have:=hvals.1;simpa using this
 obtain⟨tk,te,ht⟩:=t159
 have l0:Loc m n (AMem.put m n none) (n+1) (bit n):=kH (m:=m) (n:=n) none rfl
 have hsz:(w.alloc (.mapIter (some p.blk) clock #[] clock)).heap.size=w.heap.size+1:=by simp
 have hpw:=hm.fresh mb p hp
 have main:∀(N:Nat) (seen:Array Nat) (c0:Nat) (d:List (Value×Value)) (e1:List Value) (m1:FM) (n1 rd wd:Nat) (ρ1:Ren) (a1:Act) (w1:World),(mO es es' seen).length=N->(d++mO es es' seen).Perm es->
   gv Y mb n d (e++[iU n]) (AMem.put m n none) (n+1)=.ok .norm e1 m1 n1 rd wd->e1[14]?=some (iU n)->a1.defers=[]->a1.tmps.size=140->Post ρ V w B n m1 n1 (Nat.lor (bit n) wd) ρ1 w1->dI ρ1 GfS e1 a1.tmps->ρ1 n=some (itP w)->
   w1.heap[w.heap.size]?=some (.mapIter (some p.blk) clock seen c0)->clock<=c0->w1.heap[p.blk]?=some (.map es' clock)->(∀b q O,ρ1 b=some q->upd V (Nat.lor (bit n) wd) m1 b=some O->q.blk≠w.heap.size)->
   Round PG (.seq (.region i2 o2 false) (.seq (.cond (.tmp 113) .skip (.exit 2)) (.block 3 (.seq (.region i3 o3 false) cB)))) (Exit.inBlock 2 (Exit.then (cC.wp PG Q) Q)) a1 w1:=by
  intro N
  induction N with
  |zero=>
   intro seen c0 d e1 m1 n1 rd wd ρ1 a1 w1 hN hperm hf h14 hd1 hs1 hP hE hI hit hcc hmap hinv
   have hr0:mO es es' seen=[]:=List.length_eq_zero_iff.1 hN
   rw[hr0,List.append_nil]at hperm
   have ht111:a1.tmps[111]?=some (.pointer (some ⟨w.heap.size,0,none⟩)):=DP hE h14 hI rfl rfl
   refine pN (wp_seq (wp_region ?_))
   rw[h2,show List.range 2=[0,1]from rfl]
   rcases run_next_at (P:=PG) w1 0 w.heap.size p.blk clock c0 seen es' clock hit hmap hbn.1 hcc with⟨g1,g2⟩|⟨x,hx,_⟩
   ·refine oG (v:=.tuple #[.bool false]) (w':=w1) h20 (fun o ho=>?_) (oG (v:=.bool false) (w':=w1) h21 (fun o ho=>?_) ?_)
    ·have hx2:(Instr.next (.pointer (some ⟨w.heap.size,0,none⟩)) false o.type).run PG w1=.ok (.tuple #[.bool false]) w1:=by
      rcases run_next_at (P:=PG) w1 o.type w.heap.size p.blk clock c0 seen es' clock hit hmap hbn.1 hcc with⟨_,g⟩|⟨x,hx,_⟩
      ·exact g
      ·obtain⟨j,y,_,_,hpm⟩:=qP hlen hbn.2 hx
       rw[hr0]at hpm
       have:=hpm.length_eq
       simp at this
     simp[execOp,ho,k9 ht111,hx2,Result.andThen]
    ·have:(a1.put (some 112) (.tuple #[.bool false])).eval (.tmp 112)=.tuple #[.bool false]:=k9 (nS (by omega))
     simp[execOp,ho,this,Instr.extract,Result.andThen]
    ·have hev:((a1.put (some 112) (.tuple #[.bool false])).put (some 113) (.bool false)).eval (.tmp 113)=.bool false:=k9 (nS (by rw[kQ];omega))
     refine wp_seq (wp_cond_false hev (wp_exit ?_))
     exact hk d e1 m1 n1 rd wd _ w1 ρ1 hperm hf hd1 (by rw[kQ,kQ];exact hs1) hP (mg (mg hE (d:=112) (by rfl) _) (d:=113) (by rfl) _)
   ·obtain⟨j,y,_,_,hpm⟩:=qP hlen hbn.2 hx
    rw[hr0]at hpm
    have:=hpm.length_eq
    simp at this
  |succ N ih=>
   intro seen c0 d e1 m1 n1 rd wd ρ1 a1 w1 hN hperm hf h14 hd1 hs1 hP hE hI hit hcc hmap hinv
   have ht111:a1.tmps[111]?=some (.pointer (some ⟨w.heap.size,0,none⟩)):=DP hE h14 hI rfl rfl
   refine pN (wp_seq (wp_region ?_))
   rw[h2,show List.range 2=[0,1]from rfl]
   obtain⟨o,ho1,ho2,ho3,ho4⟩:=h20
   rcases run_next_at (P:=PG) w1 o.type w.heap.size p.blk clock c0 seen es' clock hit hmap hbn.1 hcc with⟨g1,g2⟩|⟨x,hx,w1',hw1',g2⟩
   ·rw[Hd g1]at hN;cases hN
   ·obtain⟨j,y,hj1,hj2,hpm⟩:=qP hlen hbn.2 hx
    have hrs:w.heap.size<w1.heap.size:=(Array.getElem?_eq_some_iff.1 hit).1
    have hrs':w.heap.size<w1'.heap.size:=by rcases hw1' with rfl|rfl<;>exact hrs
    have hpr:p.blk≠w.heap.size:=by omega
    have heap1:∀k,k≠w.heap.size->(setBlock w1' w.heap.size (.mapIter (some p.blk) clock (seen.push x.born) clock)).heap[k]?=w1.heap[k]?:=fun k hk=>by
     rw[wu hk]
     rcases hw1' with rfl|rfl<;>rfl
    have hit2:(setBlock w1' w.heap.size (.mapIter (some p.blk) clock (seen.push x.born) clock)).heap[w.heap.size]?=some (.mapIter (some p.blk) clock (seen.push x.born) clock):=GW hrs'
    have hbel:Below w.heap.size w1 (setBlock w1' w.heap.size (.mapIter (some p.blk) clock (seen.push x.born) clock)):=by
     rcases hw1' with rfl|rfl
     ·exact wv (Nat.le_refl _)
     ·exact(CO _ w1).trans (wv (Nat.le_refl _))
    have hP2:=Post.side hP hm.le hbel (fun b q O hb hO=>heap1 _ (hinv b q O hb hO))
    generalize setBlock w1' w.heap.size (.mapIter (some p.blk) clock (seen.push x.born) clock)=w2 at g2 heap1 hit2 hbel hP2
    have hmap2:w2.heap[p.blk]?=some (.map es' clock):=(heap1 _ hpr).trans hmap
    have hxm:x∈es'.toList:=List.mem_of_getElem? hj1
    have hent:=run_entry_at (P:=PG) w2 w.heap.size p.blk clock seen es' clock x hit2 hmap2 hxm hbn.2
    have hperm2:((d++[y])++mO es es' (seen.push x.born)).Perm es:=by
     rw[List.append_assoc]
     exact(List.Perm.append_left d hpm.symm).trans hperm
    obtain⟨e9,m9,n9,r9,w9,hf9,hag9⟩:=hag _ hperm2
    obtain⟨e3,m3,n3,r3,w3,r4,w4,f1,f2,rfl,rfl⟩:=ri hf9
    obtain⟨e1',m1',n1',rd',wd',r5,w5,f3,f4,rfl,rfl⟩:=ri f1
    rw[hf]at f3
    injection f3 with _ u2 u3 u4 u5 u6
    subst u2;subst u3;subst u4;subst u5;subst u6
    obtain⟨e5,m5,n5,r6,w6,r7,w7,f5,f6,f7,rfl,rfl⟩:=me f4
    injection f7 with _ u2 u3 u4 u5 u6
    subst u2;subst u3;subst u4;subst u5;subst u6
    have lf:=qf hY hf
    have lall:Loc m n m1 n1 (Nat.lor (bit n) wd):=l0.trans lf.1
    have lr:=DG hY f5
    have hxv:VRel ρ1 y.2 x.val:=by
     refine(hvals.2 j y.2 x.val ?_ ?_).mono hP.le
     ·rw[List.getElem?_map,hj2];rfl
     ·rw[List.getElem?_map,hj1];rfl
    have hfree1:gI ρ1 n1:=hfree.next hP
    have hlt1:∀{b q},ρ1 b=some q->b<n1:=fun{b q} h=>by
     rcases Nat.lt_or_ge b n1 with hh|hh
     ·exact hh
     ·rw[hfree1 b hh]at h;cases h
    have hmb1:ρ1 mb=some p:=hP.le mb p hp
    have hVmb:upd V (Nat.lor (bit n) wd) m1 mb=some (.map es):=by
     unfold upd
     rw[c9,dn,lf.2,decide_eq_false (by omega)]
     exact hV
    refine NI (v:=.tuple #[.bool true,x.key,x.val]) (w':=w2) ho1 ho2 ho4 ?_ (oG (v:=.bool true) (w':=w2) h21 (fun o ho=>?_) ?_)
    ·simp[execOp,ho3,k9 ht111,g2,Result.andThen]
    ·have:(a1.put (some 112) (.tuple #[.bool true,x.key,x.val])).eval (.tmp 112)=.tuple #[.bool true,x.key,x.val]:=k9 (nS (by omega))
     simp[execOp,ho,this,Instr.extract,Result.andThen]
    ·have hev:((a1.put (some 112) (.tuple #[.bool true,x.key,x.val])).put (some 113) (.bool true)).eval (.tmp 113)=.bool true:=k9 (nS (by rw[kQ];omega))
     refine wp_seq (wp_cond_true hev (wp_skip (wp_block ?_)))
     have hF:Sub (Nat.lor r6 w6) (Nat.lor (Nat.lor (Nat.lor rd (Nat.lor r6 0)) r4) (Nat.lor (Nat.lor wd (Nat.lor w6 0)) w4)):=by
      intro k hk
      rw[c9,Bool.or_eq_true]at hk
      simp only[c9]
      rcases hk with hk|hk<;>simp[hk]
     refine B8 hY hYs hC h3 h30 h31 h32 hcB f5 (ρ:=ρ1) (V:=upd V (Nat.lor (bit n) wd) m1) (B:=B) (r:=w.heap.size) (key:=x.key) (x':=x.val) ?_ ?_ ?_ hF (hag9.step lall) hP2.mrel hfree1 ?_ hxv hent fun a' w' ρ2 p1 p2 p3 p4=>?_
     ·exact hd1
     ·rw[kQ,kQ];exact hs1
     ·exact mg (mg hE (d:=112) (by rfl) _) (d:=113) (by rfl) _
     ·rw[ub (by decide),ub (by decide)];exact ht111
     have hwr:∀b q,ρ1 b=some q->w6.testBit b=true->∃O,upd V (Nat.lor (bit n) wd) m1 b=some O/\O.wr=true:=fun b q hb hw=>(p3.wold b hw).2 (hlt1 hb)
     have frame:∀k,k<w2.heap.size->(∀b q,ρ1 b=some q->w6.testBit b=true->q.blk≠k)->w'.heap[k]?=w2.heap[k]?:=p3.frame
     have hr2:w.heap.size<w2.heap.size:=(Array.getElem?_eq_some_iff.1 hit2).1
     have hit3:w'.heap[w.heap.size]?=some (.mapIter (some p.blk) clock (seen.push x.born) clock):=(frame _ hr2 fun b q hb hw=>by
      obtain⟨O,hO,_⟩:=hwr b q hb hw
      exact hinv b q O hb hO).trans hit2
     have hmap3:w'.heap[p.blk]?=some (.map es' clock):=(frame _ (Array.getElem?_eq_some_iff.1 hmap2).1 fun b q hb hw=>by
      obtain⟨O,hO,hOw⟩:=hwr b q hb hw
      refine hP2.mrel.excl b mb q p O _ hb hmb1 hO hVmb ?_ hOw
      rintro rfl
      rw[f6.1]at hw;cases hw).trans hmap2
     have hpost:Post ρ V w B n m5 n5 (Nat.lor (bit n) (Nat.lor wd w6)) ρ2 w':=by
      have:=hP2.trans p3 lr
      rwa [dy]at this
     refine ih (seen.push x.born) clock (d++[y]) e5 m5 n5 (Nat.lor rd r6) (Nat.lor wd w6) ρ2 a' w' ?_ hperm2 (F0 hf f5 f6) f6.2 p1 p2 hpost p4 (p3.le n _ hI) hit3 (Nat.le_refl _) hmap3 fun b q O hb hO=>?_
     ·have:=hpm.length_eq
      rw[hN]at this
      simp at this
      omega
     ·rcases p3.newp b q hb with u|u|⟨b0,q0,u1,u2,u3⟩
      ·cases hw:w6.testBit b
       ·refine hinv b q O u ?_
        rw[<-hO,<-dy,<-xV lr]
        unfold upd
        rw[hw]
        rfl
       ·obtain⟨O',hO',_⟩:=hwr b q u hw
        exact hinv b q O' u hO'
      ·omega
      ·obtain⟨O',hO',_⟩:=hwr b0 q0 u1 u2
       rw[<-u3]
       exact hinv b0 q0 O' u1 hO'
 refine wp_seq (wp_seq (wp_region ?_))
 rw[h1,show List.range 2=[0,1]from rfl]
 refine oG (v:=.map (some p.blk)) (w':=w) h10 (fun o ho=>?_) (oG (v:=.pointer (some ⟨w.heap.size,0,none⟩)) (w':=w.alloc (.mapIter (some p.blk) clock #[] clock)) h11 (fun o ho=>?_) ?_)
 ·simp[execOp,ho,k9 q2]
 ·have:(a.put (some 110) (.map (some p.blk))).eval (.tmp 110)=.map (some p.blk):=k9 (nS (by omega))
  simp[execOp,ho,this,run_range_map w 159 tk te p.blk es' clock ht hheap,Result.andThen]
 ·refine wp_block (rG ?_)
  have hP0:=Post.iter (m:=m) hm hfree (.mapIter (some p.blk) clock #[] clock)
  have hI0:(fun b=>if b=n then some (itP w)else ρ b) n=some (itP w):=if_pos rfl
  refine main _ #[] clock [] (e++[iU n]) (AMem.put m n none) (n+1) 0 0 _ _ (w.alloc (.mapIter (some p.blk) clock #[] clock)) rfl ?_ rfl ?_ hd (by rw[kQ,kQ];exact hs) (by rw[dZ];exact hP0) ?_ hI0 (Am.heap_alloc _ _) (Nat.le_refl _) ((Below.heap_alloc w _ _ hpw).trans hheap) ?_
  ·rw[Ca hlen];exact List.Perm.refl _
  ·rw[List.getElem?_append_right (by omega),hel];rfl
  ·refine Lo ((mg he (d:=110) (by rfl) _).mono hP0.le) (by rfl) ?_ (by rw[hel];rfl) (by simp;omega)
   exact VRel.ptr (ρ:=fun b=>if b=n then some (itP w)else ρ b) (b:=n) (o:=0) (p:=itP w) hI0
  ·intro b q O hb hO
   by_cases e:b=n
   ·subst e
    unfold upd at hO
    rw[dZ,dn,decide_eq_true rfl,if_pos rfl,AMem.get_put m b b _ rfl,if_pos rfl]at hO
    cases hO
   ·simp only[e,if_false]at hb
    have:=hm.fresh b q hb
    omega
end
open Go Go.Am Go.RowKit Classical
section
variable{Y:Nat->List Value->FM->Nat->OR FM}
inductive Leave2(m:FM)(n:Nat)(m1:FM)(r w:Nat):Value->OR FM->Prop
 |one {b2 o2 l2 k2:Nat} {c:List Value} {z:Nat} {o:Bool} (h:n<=b2) (hw:w.testBit b2=true) (hm:m1 b2=some (.cells c z o true)) (hf:c.all flat=true) (hmod:Nat.mod w (bit n)=0):
   Leave2 m n m1 r w (.tuple #[.slice none 0 0,.slice (some ⟨b2,o2,none⟩) l2 k2]) (.ok (.tuple #[.slice none 0 0,.slice (some ⟨n,o2,none⟩) l2 k2]) (AMem.put m n (some (.cells c z o true))) (n+1) (Nat.pred (bit n)) (bit n))
 |two {b1 o1 l1 k1 b2 o2 l2 k2:Nat} {c c1:List Value} {z z1:Nat} {o p1:Bool} (h:n<=b2) (hw:w.testBit b2=true) (hm:m1 b2=some (.cells c z o true)) (hf:c.all flat=true) (h1:n<=b1) (hw1:w.testBit b1=true) (hm1:m1 b1=some (.cells c1 z1 p1 true)) (hf1:c1.all flat=true) (hne:b2≠b1) (hmod:Nat.mod w (bit n)=0):
   Leave2 m n m1 r w (.tuple #[.slice (some ⟨b1,o1,none⟩) l1 k1,.slice (some ⟨b2,o2,none⟩) l2 k2]) (.ok (.tuple #[.slice (some ⟨n+1,o1,none⟩) l1 k1,.slice (some ⟨n,o2,none⟩) l2 k2]) (AMem.put (AMem.put m n (some (.cells c z o true))) (n+1) (some (.cells c1 z1 p1 true))) (n+2) (Nat.pred (bit n)) (Nat.lor (bit n) (bit (n+1))))
def Out2(Y:Nat->List Value->FM->Nat->OR FM)(mb:Nat)(m:FM)(n:Nat)(e1:List Value)(m1:FM)(n1 r1 w1:Nat)(R:OR FM)(σ:List (Value×Value)):Prop:=
 ∃e2 m2 n2 r2 w2 e3 v m3 n3 r3 w3,gv Y mb n1 σ (e1++[iU n1]) (AMem.put m1 n1 none) (n1+1)=.ok .norm e2 m2 n2 r2 w2/\dt PG EL Y BJ e2 m2 n2=.ok (.ret v) e3 m3 n3 r3 w3/\Leave2 m n m3 (Nat.lor r1 (Nat.lor r2 r3)) (Nat.lor w1 (Nat.lor (Nat.lor (bit n1) w2) w3)) v R
def vK(Y:Nat->List Value->FM->Nat->OR FM)(args:List Value)(m:FM)(n:Nat)(R:OR FM):Prop:=
 ∃e1 m1 n1 r1 w1 mb es,dt PG EL Y xQ args m n=.ok .norm e1 m1 n1 r1 w1/\args.length=3/\e1.length=14/\e1[4]?=some (.map (some mb))/\w1.testBit mb=true/\mb<n1/\m1 mb=some (.map es)/\∀σ,σ.Perm es->Out2 Y mb m n e1 m1 n1 r1 w1 R σ
noncomputable def mw(Y:Nat->List Value->FM->Nat->OR FM)(f:Nat)(args:List Value)(m:FM)(n:Nat):OR FM:=if f=40 then(if h:∃R,vK Y args m n R then h.choose else .no)else .no
theorem zR{w:Nat}(h:mw Y f args m n=.ok v m' n' r w):f=40/\vK Y args m n (.ok v m' n' r w):=by
 unfold mw at h
 split at h
 ·rename_i hf
  split at h
  ·rename_i hx
   have:=hx.choose_spec
   rw[h]at this
   exact⟨hf,this⟩
  ·cases h
 ·cases h
theorem wH(n b:Nat):(Nat.pred (bit n)).testBit b=decide (b<n):=by
 rw[mo];exact Nat.testBit_two_pow_sub_one n b
theorem Leave2.form{w:Nat}(h:Leave2 m n m1 r w v (.ok v' m' n' r' w')):Loc m n m' n' w'/\Up n n' r' w':=by
 have hr:∀i,n<=i->(Nat.pred (bit n)).testBit i=false:=fun i hi=>by rw[wH];exact decide_eq_false (by omega)
 generalize hR:OR.ok v' m' n' r' w'=R at h
 cases h with
 |one h1 h2 h3 h4 h5=>
  injection hR with e1 e2 e3 e4 e5
  subst e2;subst e3;subst e4;subst e5
  exact⟨kH _ rfl,tC n hr⟩
 |two h1 h2 h3 h4 h5 h6 h7 h8 h9 h10=>
  injection hR with e1 e2 e3 e4 e5
  subst e2;subst e3;subst e4;subst e5
  refine⟨(kH _ rfl).trans (kH _ rfl),?_⟩
  have:=(tC n hr).trans (tC (n+1) (r:=0) (fun i _=>Nat.zero_testBit i))
  rwa [dZ]at this
theorem wx{w:Nat}(h:mw Y f args m n=.ok v m' n' r w):Loc m n m' n' w/\Up n n' r w:=by
 obtain⟨rfl,e1,m1,n1,r1,w1,mb,es,_,_,_,_,_,_,_,hall⟩:=zR h
 obtain⟨e2,m2,n2,r2,w2,e3,v,m3,n3,r3,w3,_,_,hl⟩:=hall es (List.Perm.refl _)
 exact hl.form
theorem G0:ew (mw Y):=fun f args m n v m' n' r wm h=>(wx h).1
theorem KE:YUp (mw Y):=fun f args m n v m' n' r wm h=>(wx h).2
theorem Leave2.same{w:Nat}{R R':OR FM}(h:Leave2 m n m1 r w v R)(h':Leave2 m n m1 r w v R'):R=R':=by
 cases h with
 |one h1 h2 h3 h4 h5=>
  cases h' with
  |one g1 g2 g3 g4 g5=>
   rw[h3]at g3
   injection g3 with g3;injection g3 with e1 e2 e3
   subst e1;subst e2;subst e3
   rfl
 |two h1 h2 h3 h4 h5 h6 h7 h8 h9 h10=>
  cases h' with
  |two g1 g2 g3 g4 g5 g6 g7 g8 g9 g10=>
   rw[h3]at g3
   injection g3 with g3;injection g3 with e1 e2 e3
   rw[h7]at g7
   injection g7 with g7;injection g7 with e4 e5 e6
   subst e1;subst e2;subst e3;subst e4;subst e5;subst e6
   rfl
theorem B3{R R':OR FM}(h:vK Y args m n R)(h':vK Y args m n R'):R=R':=by
 obtain⟨e1,m1,n1,r1,w1,mb,es,a1,a2,a3,a4,a5,a6,a7,a8⟩:=h
 obtain⟨e1',m1',n1',r1',w1',mb',es',b1,b2,b3,b4,b5,b6,b7,b8⟩:=h'
 rw[a1]at b1
 injection b1 with _ q2 q3 q4 q5 q6
 subst q2;subst q3;subst q4;subst q5;subst q6
 rw[a4]at b4
 injection b4 with b4;injection b4 with b4;injection b4 with b4
 subst b4
 rw[a7]at b7
 injection b7 with b7;injection b7 with b7
 subst b7
 obtain⟨e2,m2,n2,r2,w2,e3,v,m3,n3,r3,w3,c1,c2,c3⟩:=a8 es (List.Perm.refl _)
 obtain⟨e2',m2',n2',r2',w2',e3',v',m3',n3',r3',w3',d1,d2,d3⟩:=b8 es (List.Perm.refl _)
 rw[c1]at d1
 injection d1 with _ q2 q3 q4 q5 q6
 subst q2;subst q3;subst q4;subst q5;subst q6
 rw[c2]at d2
 injection d2 with q1 q2 q3 q4 q5 q6
 injection q1 with q1
 subst q1;subst q2;subst q3;subst q4;subst q5;subst q6
 exact c3.same d3
theorem G1{R:OR FM}(h:vK Y args m n R):mw Y 40 args m n=R:=by
 unfold mw
 rw[if_pos rfl]
 have hx:∃R,vK Y args m n R:=⟨R,h⟩
 rw[dif_pos hx]
 exact B3 hx.choose_spec h
end
open Go Go.Am Go.RowKit
section
variable{Y:Nat->List Value->FM->Nat->OR FM}
theorem fn40:PG.funcs[40]?=some Proofs.Tryz.f40:=Proofs.Tryz.func40
theorem IW:Proofs.Tryz.f40.body=some sB:=rfl
theorem Od:Proofs.Tryz.f40.name≠ "runtime.NumGoroutine":=by decide +kernel
theorem nt40:Proofs.Tryz.f40.ntmps=140:=rfl
theorem FY{ρ:Ren}{args':Array Value}(hargs:dO ρ args args'.toList)(na nt:Nat)(hla:args.length=na)(hle:na<=nt):dI ρ (yU na) args (args'++Array.replicate (nt-args'.size) undef)/\(args'++Array.replicate (nt-args'.size) undef).size=nt:=by
 have hsz:args'.size=na:=by have:=hargs.1;simp at this;omega
 refine⟨fun i t hn=>?_,by simp;omega⟩
 obtain⟨l,h1,h2⟩:=eu.1 hn
 simp only[yU,List.getElem?_map,Option.map_eq_some_iff]at h1
 obtain⟨j,hj,rfl⟩:=h1
 have hjr:=List.getElem?_eq_some_iff.1 hj
 obtain⟨hlt,hje⟩:=hjr
 simp at hlt hje
 subst hje
 have:t=i:=by simpa using h2
 subst this
 have hx:args[t]?=some (args[t]'(by omega)):=List.getElem?_eq_getElem _
 obtain⟨y,hy,hv⟩:=hargs.get hx
 refine⟨_,y,hx,?_,hv⟩
 rw[Array.getElem?_append_left (by omega)]
 simpa using hy
theorem tJ{ρ ρ2:Ren}{b b' o l:Nat}(h:VRel ρ (.slice (some ⟨b,o,none⟩) l k) v')(hb:∀p,ρ b=some p->ρ2 b'=some p):VRel ρ2 (.slice (some ⟨b',o,none⟩) l k) v':=by
 cases h with
 |flat hf=>simp[flat]at hf
 |slice hp hn hu hk hv=>exact .slice (hb _ hp) hn hu hk hv
 |vag=>exact .vag
theorem DU{ρ ρ2:Ren}{y x2 y2:Value}(h:VRel ρ (.tuple #[x,y]) v')(hx:∀z,VRel ρ x z->VRel ρ2 x2 z)(hy:∀z,VRel ρ y z->VRel ρ2 y2 z):VRel ρ2 (.tuple #[x2,y2]) v':=by
 have:∃a b,v'=.tuple #[a,b]/\VRel ρ x a/\VRel ρ y b:=by
  cases h with
  |flat hf=>simp[flat]at hf
  |tuple h1 h2=>
   rename_i a'
   obtain⟨l⟩:=a'
   match l,h1,h2 with
   |[a,b],_,h2=>exact⟨a,b,rfl,h2 0 x a rfl rfl,h2 1 y b rfl rfl⟩
   |[],h1,_=>simp at h1
   |[_],h1,_=>simp at h1
   |_::_::_::_,h1,_=>simp at h1
 obtain⟨a,b,rfl,ha,hb⟩:=this
 exact(dO.cons (hx a ha) (dO.cons (hy b hb) (dO.nil ρ2))).tuple
theorem uj(n b:Nat):(bit n).testBit b=(decide (n<=b)&&decide (b<n+1)):=by
 rw[dn]
 by_cases h:n=b
 ·subst h;simp
 ·rw[decide_eq_false h]
  by_cases h2:n<=b
  ·rw[decide_eq_true h2,decide_eq_false (by omega)];rfl
  ·rw[decide_eq_false h2];rfl
theorem Leave2.post{w:Nat}{v0:Value}(h:Leave2 m n m1 r w v (.ok v' m' n' r' w')){ρ ρ1:Ren}{V:Nat->Option Blk}{W W1:World}(hm:MRel ρ V W B)(hfree:gI ρ n)(hp:Post ρ V W B n m1 n1 w ρ1 W1)(hv:VRel ρ1 v v0):∃ρ2,VRel ρ2 v' v0/\Post ρ V W B n m' n' w' ρ2 W1:=by
 generalize hR:OR.ok v' m' n' r' w'=R at h
 cases h with
 |one h1 h2 h3 h4 h5=>
  rename_i b2 o2 l2 k2 c z o
  injection hR with e1 e2 e3 e4 e5
  subst e1;subst e2;subst e3;subst e4;subst e5
  have:=Post.dF (m':=AMem.put m n (some (.cells c z o true))) (W':=bit n) hp hm hfree [b2] (fun i b hb=>by
   have hi:i=0:=by have:=(List.getElem?_eq_some_iff.1 hb).1;simp at this;exact this
   subst hi
   simp at hb
   subst hb
   refine⟨h1,h2,c,z,o,h3,h4,?_⟩
   show AMem.get (AMem.put m n (some (Blk.cells c z o true))) n=_
   rw[AMem.get_put m n n _ rfl,if_pos rfl]) (by simp) h5 (fun b=>uj n b)
  refine⟨_,DU hv (fun z hz=>?_) (fun z hz=>tJ hz fun p hpp=>?_),this⟩
  ·rw[hz.dN rfl];exact .flat rfl
  ·show(if n<=n/\n<n+1 then ρ1 ([b2].getD (n-n) 0)else ρ n)=some p
   rw[if_pos (by omega),Nat.sub_self];exact hpp
 |two h1 h2 h3 h4 h5 h6 h7 h8 h9 h10=>
  rename_i b1 o1 l1 k1 b2 o2 l2 k2 c c1 z z1 o p1
  injection hR with e1 e2 e3 e4 e5
  subst e1;subst e2;subst e3;subst e4;subst e5
  have:=Post.dF (m':=AMem.put (AMem.put m n (some (.cells c z o true))) (n+1) (some (.cells c1 z1 p1 true))) (W':=Nat.lor (bit n) (bit (n+1))) hp hm hfree [b2,b1] (fun i b hb=>by
   match i,hb with
   |0,hb=>
    simp at hb
    subst hb
    refine⟨h1,h2,c,z,o,h3,h4,?_⟩
    show AMem.get (AMem.put (AMem.put m n (some (Blk.cells c z o true))) (n+1) (some (.cells c1 z1 p1 true))) n=_
    rw[AMem.get_put _ _ _ _ rfl,if_neg (by omega),AMem.get_put _ _ _ _ rfl,if_pos rfl]
   |1,hb=>
    simp at hb
    subst hb
    refine⟨h5,h6,c1,z1,p1,h7,h8,?_⟩
    show AMem.get (AMem.put (AMem.put m n (some (Blk.cells c z o true))) (n+1) (some (.cells c1 z1 p1 true))) (n+1)=_
    rw[AMem.get_put _ _ _ _ rfl,if_pos rfl]
   |_+2,hb=>simp at hb) (by simp[h9]) h10 (fun b=>by
    rw[c9,uj,uj]
    show _=(decide (n<=b)&&decide (b<n+2))
    by_cases q1:n<=b<;>by_cases q2:b<n+1<;>by_cases q3:n+1<=b<;>by_cases q4:b<n+1+1<;>by_cases q5:b<n+2<;>simp only[q1,q2,q3,q4,q5,decide_true,decide_false,Bool.and_true,Bool.and_false,Bool.or_false,Bool.or_true,Bool.and_self,Bool.or_self]<;>omega)
  refine⟨_,DU hv (fun z hz=>tJ hz fun p hpp=>?_) (fun z hz=>tJ hz fun p hpp=>?_),this⟩
  ·show(if n<=n+1/\n+1<n+2 then ρ1 ([b2,b1].getD (n+1-n) 0)else ρ (n+1))=some p
   rw[if_pos (by omega),Nat.add_sub_cancel_left];exact hpp
  ·show(if n<=n/\n<n+2 then ρ1 ([b2,b1].getD (n-n) 0)else ρ n)=some p
   rw[if_pos (by omega),Nat.sub_self];exact hpp
theorem Leave2.Ef{w:Nat}(h:Leave2 m n m1 r w v (.ok v' m' n' r' w')){V:Nat->Option Blk}(hF:Sub (Nat.lor r' w') F)(hag:eI V m n F):eI V m n (Nat.lor r w):=by
 have key:∀(hmod:Nat.mod w (bit n)=0) (hr:r'=Nat.pred (bit n)),eI V m n (Nat.lor r w):=fun hmod hr b hb hbit=>by
  refine hag b hb (hF b ?_)
  rw[c9,hr,wH,decide_eq_true hb];rfl
 generalize hR:OR.ok v' m' n' r' w'=R at h
 cases h with
 |one h1 h2 h3 h4 h5=>injection hR with e1 e2 e3 e4 e5;exact key h5 e4
 |two h1 h2 h3 h4 h5 h6 h7 h8 h9 h10=>injection hR with e1 e2 e3 e4 e5;exact key h10 e4
theorem GZ(hY:ew Y)(hYs:eQ PG Y)(hC:∀k,kK FM PG EL Y k):eQ PG (mw Y):=by
 intro f args m n v m' n' r wm h ρ V w B F args' hargs hF hag hm hfree
 obtain⟨rfl,e1,m1,n1,r1,w1,mb,es,hA,hlen,hel,hmb,hwmb,hmb1,hes,hall⟩:=zR h
 refine⟨⟨_,_,fn40,Od,IW⟩,calls_of_wp fn40 IW ?_⟩
 obtain⟨henv,hsz⟩:=FY hargs 3 140 hlen (by decide)
 obtain⟨kA,hkA⟩:=il hA
 have lA:=fO (P:=PG) (E:=EL) (Y:=Y) hY kA _ _ _ _ _ _ _ _ _ _ hkA
 obtain⟨i1,o1,i2,o2,i3,o3,cB,cC,hsp,s1,s2,s3,s4,s5,s6,s7,s8,s9,s10,s11,s12⟩:=NV
 have agr:∀{r2 w2:Nat} {v3:Value} {m3:FM} {r3 w3:Nat} (hl:Leave2 m n m3 (Nat.lor r1 (Nat.lor r2 r3)) (Nat.lor w1 (Nat.lor (Nat.lor (bit n1) w2) w3)) v3 (.ok v m' n' r wm)),eI V m n (Nat.lor (Nat.lor r1 (Nat.lor r2 r3)) (Nat.lor w1 (Nat.lor (Nat.lor (bit n1) w2) w3))):=fun hl=>hl.Ef hF hag
 obtain⟨e2,m2,n2,r2,w2,e3,v3,m3,n3,r3,w3,c1,c2,c3⟩:=hall es (List.Perm.refl _)
 refine Fs (nt:=140) (res:=Proofs.Tryz.f40.results) hY hC 6 kA xQ sB (yU 3) GeS args m n e1 m1 n1 r1 w1 chkA.1 chkA.2 hkA ρ V w B _ _ rfl (by rw[nt40];exact hsz) (by rw[nt40];exact henv) ?_ (agr c3) hm hfree _ fun a1 W1 ρ1 g1 g2 g3 g4=>?_
 ·intro k hk
  rw[c9,Bool.or_eq_true]at hk
  simp only[c9]
  rcases hk with hk|hk<;>simp[hk]
 rw[hsp]
 refine Cd hY hYs hC s1 s2 s3 s4 s5 s6 s7 s8 s9 s10 s11 (ρ:=ρ1) (V:=upd V w1 m1) (B:=B) (e:=e1) (m:=m1) (n:=n1) (mb:=mb) (es:=es) g1 g2 g4 hel g3.mrel (hfree.next g3) hmb ?_ hmb1 (fun σ hσ=>?_) fun σ f2 p2 q2 x2 y2 a2 W2 ρ2 hσ hf d1 d2 d3 d4=>?_
 ·unfold upd;rw[hwmb,if_pos rfl];exact hes
 ·obtain⟨e2,m2,n2,r2,w2,e3,v3,m3,n3,r3,w3,c1,c2,c3⟩:=hall σ hσ
  refine⟨e2,m2,n2,r2,w2,c1,((agr c3).step lA).sub fun k hk=>?_⟩
  rw[c9,Bool.or_eq_true]at hk
  simp only[c9]
  rcases hk with hk|hk<;>simp[hk]
 ·obtain⟨e2,m2,n2,r2,w2,e3,v3,m3,n3,r3,w3,c1,c2,c3⟩:=hall σ hσ
  rw[hf]at c1
  injection c1 with _ u2 u3 u4 u5 u6
  subst u2;subst u3;subst u4;subst u5;subst u6
  obtain⟨kC,hkC⟩:=il c2
  have lR:Loc m1 n1 p2 q2 (Nat.lor (bit n1) y2):=(kH (m:=m1) (n:=n1) none rfl).trans (qf hY hf).1
  have lC:=fO (P:=PG) (E:=EL) (Y:=Y) hY kC _ _ _ _ _ _ _ _ _ _ hkC
  have hagC:=((agr c3).step lA).step lR
  refine wp_mono (hC kC 140 Proofs.Tryz.f40.results BJ cC [] GfS none f2 p2 q2 (.ret v3) e3 m3 n3 r3 w3 s12 hkC ρ2 (upd (upd V w1 m1) (Nat.lor (bit n1) y2) p2) W2 B _ a2 d1 d2 d4 ?_ hagC d3.mrel ((hfree.next g3).next d3)) fun ex a' w' hq=>?_
  ·intro k hk
   rw[c9,Bool.or_eq_true]at hk
   simp only[c9]
   rcases hk with hk|hk<;>simp[hk]
  ·obtain⟨ρ3,t1,t2,t3,rfl,v',t5,t6⟩:=hq
   have hpost:=g3.trans (d3.trans t3 lC) (lR.trans lC)
   obtain⟨ρ',hv',hp'⟩:=c3.post hm hfree hpost t6
   exact⟨t1,v',t5 _ rfl,ρ',v',rfl,hv',hp'⟩
end
end Go.Am.CD
namespace Go.Am
open Go
abbrev MI:=List (Int×Value)
def fQ(mi:MI):List (Value×Value):=mi.map fun p=>(.int .i64 p.1,p.2)
def sS(t:Int):MI->Option Nat
 |[]=>none
 |p::mi=>if t=p.1 then some 0 else(sS t mi).map (·+1)
def ux(t:Int):MI->Option Value
 |[]=>none
 |p::mi=>if t=p.1 then some p.2 else ux t mi
def vP(t:Int)(v:Value):MI->MI
 |[]=>[(t,v)]
 |p::mi=>if t=p.1 then(t,v)::mi else p::vP t v mi
variable{P:Program}
theorem sf(t:Int)(k:IntKind):∀(mi:MI) (i:Nat),Instr.findNow (.int k) (.int .i64 t) (jt ((fQ mi).map Prod.fst)) i=some ((sS t mi).map fun j=>(i+j,undef))
 |[],i=>rfl
 |p::mi,i=>by
  show(match(if IntKind.i64=IntKind.i64 then some (t==p.1)else none)with|some true=>some (some (i,undef))|some false=>Instr.findNow (.int k) (.int .i64 t) (jt ((fQ mi).map Prod.fst)) (i+1)|none=>none)=_
  rw[if_pos rfl]
  by_cases h:t=p.1
  ·rw[show(t==p.1)=true from by simpa using h]
   show some (some (i,undef))=some ((if t=p.1 then some 0 else _).map _)
   rw[if_pos h];rfl
  ·rw[show(t==p.1)=false from by simpa using h]
   show Instr.findNow (.int k) (.int .i64 t) (jt ((fQ mi).map Prod.fst)) (i+1)=some ((if t=p.1 then some 0 else(sS t mi).map (·+1)).map _)
   rw[if_neg h,sf t k mi (i+1)]
   cases sS t mi with
   |none=>rfl
   |some j=>show some (some (i+1+j,undef))=some (some (i+(j+1),undef));rw[show i+1+j=i+(j+1) by omega]
theorem uB{kt:Nat}{k:IntKind}(hk:P.underlying kt=some (.int k))(e:Bool)(t:Int)(mi:MI):gk P e kt (.int .i64 t) ((fQ mi).map Prod.fst)=some (sS t mi):=by
 unfold gk
 rw[fk]
 have h1:dG P (Instr.checkKey e 10000 kt (.int .i64 t))=some ():=by
  show dG P (underlying kt >>= _)=_
  rw[fk,gU hk];rfl
 rw[h1]
 show Option.map _ (dG P (underlying kt >>= _))=_
 rw[fk,gU hk]
 show Option.map _ (dG P (match Instr.findNow (.int k) (.int .i64 t) (jt ((fQ mi).map Prod.fst)) 0 with|some r=>pure r|none=>Instr.findAsking kt (.int .i64 t) (jt ((fQ mi).map Prod.fst))))=_
 rw[sf]
 show some (Option.map _ (Option.map _ _))=_
 rw[Option.map_map]
 cases sS t mi with
 |none=>rfl
 |some j=>show some (some (0+j))=_;rw[Nat.zero_add]
theorem wQ(ok:Bool)(z:Value)(t:Int):∀mi:MI,wR ok z (fQ mi) (some (sS t mi))=some (match ux t mi with|some v=>oA ok v true|none=>oA ok z false)
 |[]=>rfl
 |p::mi=>by
  have ih:=wQ ok z t mi
  unfold sS ux
  by_cases h:t=p.1
  ·rw[if_pos h,if_pos h];rfl
  ·rw[if_neg h,if_neg h,<-ih]
   cases sS t mi<;>rfl
theorem yg(n:Nat)(a b:Int):Instr.sameBits n (.int .i64 a) (.int .i64 b)=(a==b):=by
 cases n<;>simp[Instr.sameBits]
theorem zw(t:Int)(v:Value):∀mi:MI,Ks (.int .i64 t) v (fQ mi) (some (sS t mi))=some (fQ (vP t v mi))
 |[]=>rfl
 |p::mi=>by
  have ih:=zw t v mi
  unfold sS vP
  by_cases h:t=p.1
  ·rw[if_pos h,if_pos h]
   show cond (Instr.sameBits 10000 (.int .i64 p.1) (.int .i64 t)) _ none=_
   rw[yg,show(p.1==t)=true from by simpa using h.symm];rfl
  ·rw[if_neg h,if_neg h]
   cases hi:sS t mi with
   |none=>
    rw[hi]at ih
    injection ih with ih
    show some ((Value.int .i64 p.1,p.2)::(fQ mi++[(.int .i64 t,v)]))=some ((.int .i64 p.1,p.2)::fQ (vP t v mi))
    rw[ih]
   |some j=>
    rw[hi]at ih
    replace ih:(match(fQ mi)[j]? with|some q=>cond (Instr.sameBits 10000 q.1 (.int .i64 t)) (some ((fQ mi).set j (.int .i64 t,v))) none|none=>none)=some (fQ (vP t v mi)):=ih
    show(match((Value.int .i64 p.1,p.2)::fQ mi)[j+1]? with|some q=>cond (Instr.sameBits 10000 q.1 (.int .i64 t)) (some (((Value.int .i64 p.1,p.2)::fQ mi).set (j+1) (.int .i64 t,v))) none|none=>none)=some ((.int .i64 p.1,p.2)::fQ (vP t v mi))
    rw[List.getElem?_cons_succ]
    cases hq:(fQ mi)[j]? with
    |none=>rw[hq]at ih;cases ih
    |some q=>
     rw[hq]at ih
     replace ih:cond (Instr.sameBits 10000 q.1 (.int .i64 t)) (some ((fQ mi).set j (.int .i64 t,v))) none=some (fQ (vP t v mi)):=ih
     show cond (Instr.sameBits 10000 q.1 (.int .i64 t)) _ none=_
     cases hs:Instr.sameBits 10000 q.1 (.int .i64 t)with
     |false=>rw[hs]at ih;cases ih
     |true=>
      rw[hs]at ih
      injection ih with ih
      show some ((Value.int .i64 p.1,p.2)::(fQ mi).set j (.int .i64 t,v))=_
      rw[ih]
section
variable{m:FM}{n b:Nat}{mi:MI}{kt:Nat}{k:IntKind}
theorem KH{rec:Nat->List Value->FM->Nat->OR FM}{e:List Value}(op:MOp)(xs:List Opd):dJ P rec e m n (.mp op xs)=uw P op (evs e xs) m n:=rfl
def HL(ok:Bool)(z:Value):Option Value->Value
 |some v=>oA ok v true
 |none=>oA ok z false
theorem HH(hk:P.underlying kt=some (.int k))(hb:b<n)(hm:m b=some (.map (fQ mi)))(z:Value)(ok:Bool)(t:Int):
  uw P (.look kt z ok) [.map (some b),.int .i64 t] m n=.ok (HL ok z (ux t mi)) m n (bit b) 0:=by
 show kG P kt z ok m n b (.int .i64 t) (fg m n b)=_
 rw[eS hb,hm]
 show lP m n b (wR ok z (fQ mi) (gk P (fQ mi).isEmpty kt (.int .i64 t) ((fQ mi).map Prod.fst)))=_
 rw[uB hk,wQ]
 cases ux t mi<;>rfl
theorem K3(hk:P.underlying kt=some (.int k))(hb:b<n)(hm:m b=some (.map (fQ mi)))(t:Int)(v:Value):
  uw P (.upd kt) [.map (some b),.int .i64 t,v] m n=.ok undef (AMem.put m b (some (.map (fQ (vP t v mi))))) n (bit b) (bit b):=by
 show Fl P kt m n b (.int .i64 t) v (fg m n b)=_
 rw[eS hb,hm]
 show yl m n b (Ks (.int .i64 t) v (fQ mi) (gk P false kt (.int .i64 t) ((fQ mi).map Prod.fst)))=_
 rw[uB hk,zw];rfl
theorem map_mk:uw P .mk [] m n=.ok (.map (some n)) (AMem.put m n (some (.map (fQ [])))) (n+1) 0 (bit n):=rfl
end
end Go.Am
namespace Go.Am.CD
set_option maxRecDepth 100000
open Go Go.Am
variable{E:Nat->Option AFn}{Y:Nat->List Value->FM->Nat->OR FM}
variable{X:List Sec}{n0 z bb gb t sb mb N:Nat}{r:Rec}{bs:List Bnd}{Q:AX->List Value->FM->Nat->Nat->Prop}{so sw:Bool}{svs:List Value}{M:FM}
abbrev eF:=Rec×Nat
def ed(c:eF):List Value:=c.1.cs++[.int .i64 (c.2:Int)]
def xG(c:eF):List Value:=ed c++[.int .u64 (c.1.tm:Int)]
def gY(c:eF):Value:=.agg (xG c).toArray
def miC(cs:List eF):MI:=cs.map fun c=>((c.1.blk:Int),gY c)
def pX(c d:eF):Bool:=decide (d.1.ver<c.1.ver) || (decide (c.1.ver=d.1.ver)&&decide (d.1.tm<c.1.tm))
theorem iT(h:r.Ok):∃d0 d1 d2 d3 d4 d5 d6 d7:Nat,r.cs=[.int .i64 (r.kd:Int),.int .i64 (r.blk:Int),.int .u64 (r.ver:Int),.int .u8 (d0:Int),.int .u8 (d1:Int),.int .u8 (d2:Int),.int .u8 (d3:Int),.int .u8 (d4:Int),.int .u8 (d5:Int),.int .u8 (d6:Int),.int .u8 (d7:Int)]:=by
 obtain⟨d0,d1,d2,d3,d4,d5,d6,d7,hd⟩:=eight h.dl
 exact⟨d0,d1,d2,d3,d4,d5,d6,d7,by rw[Rec.cs,hd];rfl⟩
theorem Bh(m:FM)(n:Nat){c d:eF}(hc:c.1.Ok)(hd:d.1.Ok):Pure (df PG EL Y 79 [gY c,gY d] m n) m n (.bool (pX c d)):=by
 obtain⟨a0,a1,a2,a3,a4,a5,a6,a7,ha⟩:=iT hc
 obtain⟨b0,b1,b2,b3,b4,b5,b6,b7,hb⟩:=iT hd
 have v1:=hc.v2
 have v2:=hd.v2
 have t1:=hc.tm
 have t2:=hd.tm
 refine dz e79 rfl rfl ?_
 simp only[OU,gY,xG,ed,ha,hb,List.cons_append,List.nil_append]
 by_cases h1:d.1.ver<c.1.ver
 ·rw[show pX c d=true by simp[pX,h1]]
  simp -implicitDefEqProofs (disch:=omega)only[W2,dd,Nat.testBit,Nat.reduceAdd,Nat.reduceShiftRight,Nat.reduceAnd,Nat.reduceBNe,Nat.reduceMul]
 ·by_cases h2:c.1.ver=d.1.ver
  ·by_cases h3:d.1.tm<c.1.tm
   ·rw[show pX c d=true by simp[pX,h2,h3]]
    simp -implicitDefEqProofs (disch:=omega)only[W2,dd,Nat.testBit,Nat.reduceAdd,Nat.reduceShiftRight,Nat.reduceAnd,Nat.reduceBNe,Nat.reduceMul,h2]
   ·rw[show pX c d=false by simp[pX,h2,h3]]
    simp -implicitDefEqProofs (disch:=omega)only[W2,dd,Nat.testBit,Nat.reduceAdd,Nat.reduceShiftRight,Nat.reduceAnd,Nat.reduceBNe,Nat.reduceMul,h2]
  ·rw[show pX c d=false by simp[pX,h1,h2]]
   simp -implicitDefEqProofs (disch:=omega)only[W2,dd,Nat.testBit,Nat.reduceAdd,Nat.reduceShiftRight,Nat.reduceAnd,Nat.reduceBNe,Nat.reduceMul]
def kG(t:Nat)(cs:List eF):Option eF:=cs.find? fun c=>c.1.blk==t
def mD(c:eF):List eF->List eF
 |[]=>[c]
 |d::l=>if c.1.blk=d.1.blk then c::l else d::mD c l
theorem Ei(t:Nat):∀cs:List eF,ux (t:Int) (miC cs)=(kG t cs).map gY
 |[]=>rfl
 |d::cs=>by
  show(if(t:Int)=(d.1.blk:Int)then some (gY d)else ux (t:Int) (miC cs))=_
  rw[Ei t cs]
  show _=(List.find? (fun c:eF=>c.1.blk==t) (d::cs)).map gY
  rw[List.find?_cons]
  by_cases h:t=d.1.blk
  ·rw[if_pos (by omega),show(d.1.blk==t)=true by simpa using h.symm];rfl
  ·rw[if_neg (by omega),show(d.1.blk==t)=false by simpa using fun e=>h e.symm];rfl
theorem GX(c:eF):∀cs:List eF,vP (c.1.blk:Int) (gY c) (miC cs)=miC (mD c cs)
 |[]=>rfl
 |d::cs=>by
  show(if(c.1.blk:Int)=(d.1.blk:Int)then((c.1.blk:Int),gY c)::miC cs else((d.1.blk:Int),gY d)::vP (c.1.blk:Int) (gY c) (miC cs))=_
  rw[GX c cs,mD]
  by_cases h:c.1.blk=d.1.blk
  ·rw[if_pos (by omega),if_pos h];rfl
  ·rw[if_neg (by omega),if_neg h];rfl
theorem tR{c x:eF}:∀{cs:List eF},x∈mD c cs->x=c\/x∈cs
 |[],h=>.inl (by simpa[mD]using h)
 |d::l,h=>by
  unfold mD at h
  split at h
  ·rcases List.mem_cons.1 h with h|h
   ·exact .inl h
   ·exact .inr (List.mem_cons_of_mem _ h)
  ·rcases List.mem_cons.1 h with h|h
   ·exact .inr (h▸List.mem_cons_self)
   ·rcases tR h with h|h
    ·exact .inl h
    ·exact .inr (List.mem_cons_of_mem _ h)
theorem qM(c:eF):∀cs:List eF,c∈mD c cs
 |[]=>by simp[mD]
 |d::l=>by
  unfold mD
  split
  ·exact List.mem_cons_self
  ·exact List.mem_cons_of_mem _ (qM c l)
theorem zN{c x:eF}:∀{cs:List eF},x∈cs->x.1.blk≠c.1.blk->x∈mD c cs
 |d::l,h,hn=>by
  unfold mD
  rcases List.mem_cons.1 h with rfl|h
  ·rw[if_neg (Ne.symm hn)];exact List.mem_cons_self
  ·split
   ·exact List.mem_cons_of_mem _ h
   ·exact List.mem_cons_of_mem _ (zN h hn)
theorem tQ{c:eF}:∀{cs:List eF},(cs.map fun x=>x.1.blk).Nodup->((mD c cs).map fun x=>x.1.blk).Nodup
 |[],_=>by simp[mD]
 |d::l,h=>by
  rw[List.map_cons,List.nodup_cons]at h
  unfold mD
  split
  ·rename_i e
   rw[List.map_cons,List.nodup_cons,e]
   exact h
  ·rename_i e
   rw[List.map_cons,List.nodup_cons]
   refine⟨fun hm=>?_,tQ h.2⟩
   obtain⟨x,hx,hb⟩:=List.mem_map.1 hm
   rcases tR hx with rfl|hx
   ·exact e hb
   ·exact h.1 (hb▸List.mem_map_of_mem hx)
theorem oM{cs:List eF}{c:eF}(h:kG t cs=some c):c∈cs/\c.1.blk=t:=⟨List.mem_of_find?_eq_some h,by have:=List.find?_some h;simpa using this⟩
theorem Cu{cs:List eF}(h:kG t cs=none):∀c∈cs,c.1.blk≠t:=fun c hc e=>by
 have:=List.find?_eq_none.1 h c hc
 simp[e]at this
structure Fnd(X:List Sec)(z:Nat)(cs:List eF):Prop where
 at_:∀c∈cs,60<=c.2/\c.2<z/\X[c.2]?=some (.ent c.1)/\c.1.Ok
 nd:(cs.map fun x=>x.1.blk).Nodup
 all:∀a r,60<=a->a<z->X[a]?=some (.ent r)->∃c∈cs,c.1.blk=r.blk/\r.ver<=c.1.ver
theorem Fnd.nil(X:List Sec):Fnd X 60 []:=⟨fun _ h=>by simp at h,by simp,fun a r h1 h2 _=>by omega⟩
theorem Fnd.skip{cs:List eF}(h:Fnd X z cs)(hx:∀r,X[z]?≠some (.ent r)):Fnd X (z+1) cs:=
 ⟨fun c hc=>let⟨a,b,d⟩:=h.at_ c hc;⟨a,by omega,d⟩,h.nd,fun a r h1 h2 h3=>by
  by_cases e:a=z
  ·subst e;exact absurd h3 (hx r)
  ·exact h.all a r h1 (by omega) h3⟩
theorem Fnd.dF{cs:List eF}(h:Fnd X z cs)(hx:X[z]?=some (.ent r)){d:eF}(hd:kG r.blk cs=some d)(hn:pX (r,z) d=false):Fnd X (z+1) cs:=
 ⟨fun c hc=>let⟨a,b,d⟩:=h.at_ c hc;⟨a,by omega,d⟩,h.nd,fun a s h1 h2 h3=>by
  by_cases e:a=z
  ·subst e
   rw[hx]at h3
   injection h3 with h3;injection h3 with h3
   subst h3
   obtain⟨q1,q2⟩:=oM hd
   refine⟨d,q1,q2,?_⟩
   simp[pX]at hn
   omega
  ·exact h.all a s h1 (by omega) h3⟩
theorem Fnd.set{cs:List eF}(h:Fnd X z cs)(hok:r.Ok)(hz:60<=z)(hx:X[z]?=some (.ent r))(hn:∀d,kG r.blk cs=some d->pX (r,z) d=true):Fnd X (z+1) (mD (r,z) cs):=
 ⟨fun c hc=>by
  rcases tR hc with rfl|hc
  ·exact⟨hz,by show z<z+1;omega,hx,hok⟩
  ·obtain⟨a,b,d⟩:=h.at_ c hc
   exact⟨a,by omega,d⟩,tQ h.nd,fun a s h1 h2 h3=>by
  by_cases e:a=z
  ·subst e
   rw[hx]at h3
   injection h3 with h3;injection h3 with h3
   subst h3
   exact⟨_,qM _ _,rfl,Nat.le_refl _⟩
  ·obtain⟨c,c1,c2,c3⟩:=h.all a s h1 (by omega) h3
   by_cases e2:c.1.blk=r.blk
   ·cases hl:kG r.blk cs with
    |none=>exact absurd e2 (Cu hl c c1)
    |some d=>
     have hnd:=hn d hl
     obtain⟨q1,q2⟩:=oM hl
     have:c=d:=by
      have:=h.nd
      obtain⟨i,hi,hic⟩:=List.mem_iff_getElem.1 c1
      obtain⟨j,hj,hjd⟩:=List.mem_iff_getElem.1 q1
      have:i=j:=by
       refine(List.getElem?_inj (by simpa using hi) h.nd).1 ?_
       rw[List.getElem?_map,List.getElem?_map,List.getElem?_eq_getElem hi,List.getElem?_eq_getElem hj,hic,hjd]
       simp[e2,q2]
      subst this
      exact hic.symm.trans hjd
     subst this
     refine⟨_,qM _ _,by show r.blk=s.blk;omega,?_⟩
     show s.ver<=r.ver
     simp[pX]at hnd
     omega
   ·exact⟨c,zN c1 e2,c2,c3⟩⟩
def Gr(M:FM)(N:Nat)(X:List Sec)(svs:List Value):Prop:=∀j v,svs[j]?=some v->(v=.slice none 0 0/\∀r,X[60+j]?≠some (.ent r))\/∃r b o w,X[60+j]?=some (.ent r)/\r.Ok/\v=.slice (some ⟨b,0,none⟩) 37 UNK/\b<N/\M b=some (.cells (n8s r.enc) 1 o w)
def BP(bs:List Bnd):Prop:=bs.length=5/\∀b∈bs,b.used<=6/\b.live=0/\0<=b.age/\b.age<18446744073709551616/\b.wear=0
theorem HM:PG.underlying 3=some (.int .i64):=rfl
theorem quo6(j:Nat)(h:j<30):((j:Int)).tdiv 6=((j / 6:Nat):Int):=by
 rw[Int.tdiv_eq_ediv_of_nonneg (by omega)];omega
theorem A4(a:Option Addr)(l c:Nat):ji PG .eql 99 (.slice a l c) (.slice none 0 0)=some (.bool a.isNone):=by
 have h:je PG 99=true:=by kernel_rfl
 show cond (je PG 99) (kY .eql a.isNone) none=_
 rw[h];rfl
theorem HE{a b:Int}(ha:0<=a/\a<18446744073709551616)(hb:0<=b/\b<18446744073709551616):∃c:Int,mxV (.int .u64 a) (.int .u64 b)=some (.int .u64 c)/\0<=c/\c<18446744073709551616:=by
 refine⟨cond (ltB a b) b a,rfl,?_⟩
 cases ltB a b
 ·exact ha
 ·exact hb
theorem KS{n0 sb mb bb gb:Nat}{M0:FM}{X:List Sec}{svs:List Value}{cp:Nat}(hsb:sb<n0/\M0 sb=some (.cells svs 1 so sw))(hsl:svs.length=30)(hS:Gr M0 n0 X svs)(hmb:n0<=mb)(hbb:n0<=bb)(hgb:n0<=gb)(hne:mb≠bb/\mb≠gb/\bb≠gb)(x6 x8 x9 x11 x12:Value)
  (hQ:∀x1 M N w bs cs,mb<N->bb<N->gb<N->(∀b,b<n0->M b=M0 b)->(∀b,b<n0->Nat.testBit w b=false)->M gb=some (.cells [.int .i64 60,.int .i64 5,.int .i64 2,.int .i64 3,.int .i64 1] 0 false true)->M mb=some (.map (fQ (miC cs)))->M bb=some (.cells (dD bs) 4 false true)->BP bs->Fnd X 90 cs->Q (.exit 0) [x1,.int .i64 30,.slice (some ⟨sb,0,none⟩) 30 cp,.map (some mb),.slice (some ⟨bb,0,none⟩) 5 5,x6,.int .i64 6,x8,x9,.pointer (some ⟨gb,0,none⟩),x11,x12,.int .i64 6] M N w):
  ∀(d j:Nat),j+d=30->∀(x1:Value) (M:FM) (N w0:Nat) (bs:List Bnd) (cs:List eF),mb<N->bb<N->gb<N->(∀b,b<n0->M b=M0 b)->(∀b,b<n0->Nat.testBit w0 b=false)->M gb=some (.cells [.int .i64 60,.int .i64 5,.int .i64 2,.int .i64 3,.int .i64 1] 0 false true)->M mb=some (.map (fQ (miC cs)))->M bb=some (.cells (dD bs) 4 false true)->BP bs->Fnd X (60+j) cs->
  Gv (dt PG EL Y vz [.int .i64 (j:Int),x1,.int .i64 30,.slice (some ⟨sb,0,none⟩) 30 cp,.map (some mb),.slice (some ⟨bb,0,none⟩) 5 5,x6,.int .i64 6,x8,x9,.pointer (some ⟨gb,0,none⟩),x11,x12,.int .i64 6] M N) fun X e m n w=>Q X e m n (Nat.lor w0 w):=by
 obtain⟨hsb,hsm⟩:=hsb
 obtain⟨ne1,ne2,ne3⟩:=hne
 intro d
 induction d with
 |zero=>
  intro j hj x1 M N w0 bs cs hmN hbN hgN hM hw hg hm hb hB hF
  refine dm (L:=vz) (b:=qy) rfl ?_
  simp only[qy]
  obtain rfl:j=30:=by omega
  simp -implicitDefEqProofs (disch:=omega)only[W2,dd,Nat.testBit,Nat.reduceAdd,Nat.reduceShiftRight,Nat.reduceAnd,Nat.reduceBNe,Nat.reduceMul]
  exact hQ _ _ _ _ _ _ hmN hbN hgN hM hw hg hm hb hB hF
 |succ d ih=>
  intro j hj x1 M N w0 bs cs hmN hbN hgN hM hw hg hm hb hB hF
  refine dm (L:=vz) (b:=qy) rfl ?_
  simp only[qy]
  have hms:=(hM sb hsb).trans hsm
  have hj30:j<30:=by omega
  have hix:fU 1 j (.slice (some ⟨sb,0,none⟩) 30 cp)=some (.pointer (some ⟨sb,j,none⟩)):=by rw[eY hj30,Nat.zero_add,Nat.mul_one]
  have hcg:fh svs j=some svs[j]:=by rw[eV,List.getElem?_eq_getElem (by omega)]
  have hbl:=hB.1
  have hq5:j / 6<5:=by omega
  have hqi:=quo6 j hj30
  have hixb:fU 4 (j / 6) (.slice (some ⟨bb,0,none⟩) 5 5)=some (.pointer (some ⟨bb,j / 6*4,none⟩)):=by rw[eY hq5,Nat.zero_add]
  obtain⟨c1,c2,c3,c4,c5⟩:=eM (l:=bs) (j:=j / 6) (by omega)
  obtain⟨s1,s2,s3⟩:=jc (l:=bs) (k:=j / 6) (by omega)
  obtain⟨u1,u2,u3,u4,u5⟩:=hB.2 _ (List.getElem_mem (show j / 6<bs.length by omega))
  rcases hS j svs[j] (List.getElem?_eq_getElem (by omega))with⟨hv,hx⟩|⟨r,b,o,w,hx,hok,hv,hbn,hmb'⟩
  ·rw[hv]at hcg
   simp -implicitDefEqProofs (disch:=omega)only[W2,dd,Nat.testBit,Nat.reduceAdd,Nat.reduceShiftRight,Nat.reduceAnd,Nat.reduceBNe,Nat.reduceMul,hms,hix,hcg,A4,Option.isNone]
   refine dM (ih (j+1) (by omega) _ M N w0 bs cs hmN hbN hgN hM hw hg hm hb hB (hF.skip hx)) fun X e m n w hq=>?_
   simpa only[dx]using hq
  ·rw[hv]at hcg
   obtain⟨d0,d1,d2,d3,d4,d5,d6,d7,hrc⟩:=iT hok
   simp -implicitDefEqProofs (disch:=omega)only[W2,dd,Nat.testBit,Nat.reduceAdd,Nat.reduceShiftRight,Nat.reduceAnd,Nat.reduceBNe,Nat.reduceMul,hms,hix,hcg,hixb,hb,s1,A4,Option.isNone]
   generalize hM1:(AMem.put M bb _:FM)=M1
   have l1:∀b,b≠bb->M1 b=M b:=fun b hb=>by rw[<-hM1,dc _ _ _ _ hb]
   have k1:M1 bb=some (.cells (dD (bs.set (j / 6) ⟨j % 6+1,bs[j / 6].live,bs[j / 6].age,bs[j / 6].wear⟩)) 4 false true):=by rw[<-hM1];exact de _ _ _
   have hmb1:=((l1 b (by omega)).trans (hM b hbn)).trans hmb'
   refine dw (sr hok (show b<N by omega) hmb1) fun rv M2 N2 r2 w2 hh=>?_
   obtain⟨hN2,hf2,hw2,rfl⟩:=hh
   have k2:=(hf2 bb (by omega)).trans k1
   have hixb2:fU 4 (j / 6) (.slice (some ⟨bb,0,none⟩) 5 5)=some (.pointer (some ⟨bb,j / 6*4,none⟩)):=hixb
   have b6:=hok.blk
   have tm:=hok.tm
   have v2:=hok.v2
   have kd2:r.kd<3:=by rcases hok.kd with h|⟨h,_⟩<;>omega
   have hj6:j / 6<bs.length:=by omega
   generalize hB1:bs.set (j / 6) _=B1 at k1 k2
   have hB1l:B1.length=5:=by rw[<-hB1,List.length_set];exact hbl
   have hB1e:B1[j / 6]'(by omega)=⟨j % 6+1,bs[j / 6].live,bs[j / 6].age,bs[j / 6].wear⟩:=by subst hB1;simp
   obtain⟨_,_,_,c4',_⟩:=eM (l:=B1) (j:=j / 6) (by omega)
   obtain⟨_,_,s3'⟩:=jc (l:=B1) (k:=j / 6) (by omega)
   rw[hB1e]at c4' s3'
   have g2:=(hf2 gb (by omega)).trans ((l1 gb (Ne.symm ne3)).trans hg)
   have m2:=(hf2 mb (by omega)).trans ((l1 mb ne1).trans hm)
   simp only[Rec.val,hrc]
   obtain⟨A,hA1,hA2,hA3⟩:=HE (a:=bs[j / 6].age) (b:=(r.tm:Int)) ⟨u3,u4⟩ ⟨by omega,by omega⟩
   simp -implicitDefEqProofs (disch:=omega)only[W2,dd,Nat.testBit,Nat.reduceAdd,Nat.reduceShiftRight,Nat.reduceAnd,Nat.reduceBNe,Nat.reduceMul,k2,c4',hA1,s3' A,g2,KH]
   generalize hB2:B1.set (j / 6) _=B2
   have hBI2:BP B2:=by
    subst hB2;subst hB1
    refine⟨by rw[List.length_set,List.length_set];exact hbl,fun x hx=>?_⟩
    rcases List.mem_or_eq_of_mem_set hx with hx|rfl
    ·rcases List.mem_or_eq_of_mem_set hx with hx|rfl
     ·exact hB.2 x hx
     ·exact⟨by show j % 6+1<=6;omega,u2,u3,u4,u5⟩
    ·exact⟨by show j % 6+1<=6;omega,u2,hA2,hA3,u5⟩
   generalize hM3:(AMem.put (AMem.put (AMem.put M2 N2 _) bb _) (N2+1) _:FM)=M3
   have l3:∀b,b<N2->b≠bb->M3 b=M2 b:=fun b h1 h2=>by rw[<-hM3,dc _ _ _ _ (by omega),dc _ _ _ _ h2,dc _ _ _ _ (by omega)]
   have p1:M3 bb=some (.cells (dD B2) 4 false true):=by rw[<-hM3,dc _ _ _ _ (by omega)];exact de _ _ _
   have hcc:xG (r,60+j)=[.int .i64 (r.kd:Int),.int .i64 (r.blk:Int),.int .u64 (r.ver:Int),.int .u8 (d0:Int),.int .u8 (d1:Int),.int .u8 (d2:Int),.int .u8 (d3:Int),.int .u8 (d4:Int),.int .u8 (d5:Int),.int .u8 (d6:Int),.int .u8 (d7:Int),.int .i64 ((60+j:Nat):Int),.int .u64 (r.tm:Int)]:=by simp only[xG,ed,hrc,List.cons_append,List.nil_append]
   have hcv:gY (r,60+j)=.agg #[.int .i64 (r.kd:Int),.int .i64 (r.blk:Int),.int .u64 (r.ver:Int),.int .u8 (d0:Int),.int .u8 (d1:Int),.int .u8 (d2:Int),.int .u8 (d3:Int),.int .u8 (d4:Int),.int .u8 (d5:Int),.int .u8 (d6:Int),.int .u8 (d7:Int),.int .i64 ((60+j:Nat):Int),.int .u64 (r.tm:Int)]:=by rw[gY,hcc]
   have p2:M3 (N2+1)=some (.cells [.int .i64 (r.kd:Int),.int .i64 (r.blk:Int),.int .u64 (r.ver:Int),.int .u8 (d0:Int),.int .u8 (d1:Int),.int .u8 (d2:Int),.int .u8 (d3:Int),.int .u8 (d4:Int),.int .u8 (d5:Int),.int .u8 (d6:Int),.int .u8 (d7:Int),.int .i64 ((60+j:Nat):Int),.int .u64 (r.tm:Int)] 0 false true):=by rw[<-hM3];exact de _ _ _
   have p3:M3 mb=some (.map (fQ (miC cs))):=(l3 mb (by omega) ne1).trans m2
   have p4:M3 N2=some (.cells [.int .i64 (r.kd:Int),.int .i64 (r.blk:Int),.int .u64 (r.ver:Int),.int .u8 (d0:Int),.int .u8 (d1:Int),.int .u8 (d2:Int),.int .u8 (d3:Int),.int .u8 (d4:Int),.int .u8 (d5:Int),.int .u8 (d6:Int),.int .u8 (d7:Int)] 0 false true):=by rw[<-hM3,dc _ _ _ _ (by omega),dc _ _ _ _ (by omega)];exact de _ _ _
   have lk:=fun z=>HH (n:=N2+2) HM (show mb<N2+2 by omega) p3 z true (r.blk:Int)
   rw[lk,Ei]
   clear hM1 hM3 hB1 hB2
   have up:∀O,uw PG (.upd 3) [.map (some mb),.int .i64 (r.blk:Int),.agg #[.int .i64 (r.kd:Int),.int .i64 (r.blk:Int),.int .u64 (r.ver:Int),.int .u8 (d0:Int),.int .u8 (d1:Int),.int .u8 (d2:Int),.int .u8 (d3:Int),.int .u8 (d4:Int),.int .u8 (d5:Int),.int .u8 (d6:Int),.int .u8 (d7:Int),.int .i64 ((60+j:Nat):Int),.int .u64 (r.tm:Int)]] (AMem.put M3 (N2+2) O) (N2+3)=.ok undef (AMem.put (AMem.put M3 (N2+2) O) mb (some (.map (fQ (miC (mD (r,60+j) cs)))))) (N2+3) (bit mb) (bit mb):=fun O=>by
    rw[<-hcv]
    have:=K3 (P:=PG) (n:=N2+3) (b:=mb) (m:=AMem.put M3 (N2+2) O) (mi:=miC cs) HM (by omega) ((dc _ _ _ _ (by omega)).trans p3) (r.blk:Int) (gY (r,60+j))
    rw[GX (r,60+j) cs]at this
    exact this
   have fin:∀(x1:Value) (M4:FM) (N4 w4:Nat) (cs':List eF),N2<=N4->(∀b,b<N2->b≠mb->M4 b=M3 b)->(∀b,b<n0->Nat.testBit w4 b=false)->M4 mb=some (.map (fQ (miC cs')))->Fnd X (60+j+1) cs'->
     Gv (dt PG EL Y vz [.int .i64 ((j+1:Nat):Int),x1,.int .i64 30,.slice (some ⟨sb,0,none⟩) 30 cp,.map (some mb),.slice (some ⟨bb,0,none⟩) 5 5,x6,.int .i64 6,x8,x9,.pointer (some ⟨gb,0,none⟩),x11,x12,.int .i64 6] M4 N4) fun X e m n w=>Q X e m n (Nat.lor (Nat.lor w0 w4) w):=fun x1 M4 N4 w4 cs' h1 h2 h3 h4 h5=>
    ih (j+1) (by omega) x1 M4 N4 (Nat.lor w0 w4) B2 cs' (by omega) (by omega) (by omega) (fun b hb=>by rw[h2 b (by omega) (by omega),l3 b (by omega) (by omega),hf2 b (by omega),l1 b (by omega),hM b hb]) (fun b hb=>by rw[c9,hw b hb,h3 b hb];rfl) ((h2 gb (by omega) (by omega)).trans ((l3 gb (by omega) (by omega)).trans g2)) h4 ((h2 bb (by omega) (by omega)).trans p1) hBI2 h5
   have hwk:∀b,b<n0->Nat.testBit (Nat.lor (Nat.lor (Nat.lor (Nat.lor (bit bb) (Nat.lor (Nat.lor w2 (bit N2)) (bit N2))) (bit bb)) (Nat.lor (bit (N2+1)) (bit (N2+1)))) (Nat.lor (bit (N2+2)) (bit (N2+2)))) b=false:=fun b hb=>by
    simp only[c9,dh (show b≠bb by omega),dh (show b≠N2 by omega),dh (show b≠N2+1 by omega),dh (show b≠N2+2 by omega),dK (hw2 N (Nat.le_refl _)) b (by omega)];rfl
   have hwm:∀b,b<n0->Nat.testBit (Nat.lor (Nat.lor (Nat.lor (Nat.lor (Nat.lor (bit bb) (Nat.lor (Nat.lor w2 (bit N2)) (bit N2))) (bit bb)) (Nat.lor (bit (N2+1)) (bit (N2+1)))) (Nat.lor (bit (N2+2)) (bit (N2+2)))) (bit mb)) b=false:=fun b hb=>by
    rw[c9,hwk b hb,dh (show b≠mb by omega)];rfl
   cases hl:kG r.blk cs with
   |none=>
    simp only[Option.map_none,HL,oA]
    simp -implicitDefEqProofs (disch:=omega)only[W2,dd,Nat.testBit,Nat.reduceAdd,Nat.reduceShiftRight,Nat.reduceAnd,Nat.reduceBNe,Nat.reduceMul,p1,p2,p3,p4,KH,up]
    refine dM (fin _ _ _ (Nat.lor (Nat.lor (Nat.lor (Nat.lor (Nat.lor (bit bb) (Nat.lor (Nat.lor w2 (bit N2)) (bit N2))) (bit bb)) (Nat.lor (bit (N2+1)) (bit (N2+1)))) (Nat.lor (bit (N2+2)) (bit (N2+2)))) (bit mb)) (mD (r,60+j) cs) (by omega) (fun b h1 h2=>by rw[dc _ _ _ _ h2,dc _ _ _ _ (by omega)]) hwm (de _ _ _) (hF.set hok (by omega) hx (fun d hd=>by rw[hl]at hd;cases hd))) fun X e m n w hq=>?_
    rw[<-dy]
    exact hq
   |some d=>
    obtain⟨hdm,hdb⟩:=oM hl
    obtain⟨_,_,_,hdok⟩:=hF.at_ d hdm
    obtain⟨e0,e1,e2,e3,e4,e5,e6,e7,hre⟩:=iT hdok
    have hdv:gY d=.agg #[.int .i64 (d.1.kd:Int),.int .i64 (d.1.blk:Int),.int .u64 (d.1.ver:Int),.int .u8 (e0:Int),.int .u8 (e1:Int),.int .u8 (e2:Int),.int .u8 (e3:Int),.int .u8 (e4:Int),.int .u8 (e5:Int),.int .u8 (e6:Int),.int .u8 (e7:Int),.int .i64 (d.2:Int),.int .u64 (d.1.tm:Int)]:=by simp only[gY,xG,ed,hre,List.cons_append,List.nil_append]
    have hnw:=fun(m:FM) (n:Nat)=>Bh (Y:=Y) m n (c:=(r,60+j)) (d:=d) hok hdok
    rw[hcv,hdv]at hnw
    simp only[Option.map_some,HL,oA,hdv]
    simp -implicitDefEqProofs (disch:=omega)only[W2,dd,Nat.testBit,Nat.reduceAdd,Nat.reduceShiftRight,Nat.reduceAnd,Nat.reduceBNe,Nat.reduceMul,p1,p2,p3,p4]
    refine di (hnw _ _) fun r5=>?_
    cases hnb:pX (r,60+j) d
    ·simp -implicitDefEqProofs (disch:=omega)only[W2,dd,Nat.testBit,Nat.reduceAdd,Nat.reduceShiftRight,Nat.reduceAnd,Nat.reduceBNe,Nat.reduceMul]
     refine dM (fin _ _ _ (Nat.lor (Nat.lor (Nat.lor (Nat.lor (bit bb) (Nat.lor (Nat.lor w2 (bit N2)) (bit N2))) (bit bb)) (Nat.lor (bit (N2+1)) (bit (N2+1)))) (Nat.lor (bit (N2+2)) (bit (N2+2)))) cs (by omega) (fun b h1 h2=>by rw[dc _ _ _ _ (by omega)]) hwk ((dc _ _ _ _ (by omega)).trans p3) (hF.dF hx hl hnb)) fun X e m n w hq=>?_
     rw[<-dy]
     exact hq
    ·simp -implicitDefEqProofs (disch:=omega)only[W2,dd,Nat.testBit,Nat.reduceAdd,Nat.reduceShiftRight,Nat.reduceAnd,Nat.reduceBNe,Nat.reduceMul,p1,p2,p3,p4,KH,up]
     refine dM (fin _ _ _ (Nat.lor (Nat.lor (Nat.lor (Nat.lor (Nat.lor (bit bb) (Nat.lor (Nat.lor w2 (bit N2)) (bit N2))) (bit bb)) (Nat.lor (bit (N2+1)) (bit (N2+1)))) (Nat.lor (bit (N2+2)) (bit (N2+2)))) (bit mb)) (mD (r,60+j) cs) (by omega) (fun b h1 h2=>by rw[dc _ _ _ _ h2,dc _ _ _ _ (by omega)]) hwm (de _ _ _) (hF.set hok (by omega) hx (fun d' hd=>by rw[hl]at hd;injection hd with hd;subst hd;exact hnb))) fun X e m n w hq=>?_
     rw[<-dy]
     exact hq
theorem jf{x:CR FM}(h:Wr PG EL Y [] 0 x Q):Gv x Q:=Gv.mono h fun X e m n w hq=>by rwa [dx]at hq
structure PaR(m:FM)(n:Nat)(X:List Sec)(A:AX)(e:List Value)(m':FM)(n' w mb bb gb:Nat)(bs:List Bnd)(cs:List eF):Prop where
 norm:A=.norm
 env:∃x1 x3 x6 x8 x9 x11 x12:Value,e=[.slice none 0 0,x1,.int .i64 30,x3,.map (some mb),.slice (some ⟨bb,0,none⟩) 5 5,x6,.int .i64 6,x8,x9,.pointer (some ⟨gb,0,none⟩),x11,x12,.int .i64 6]
 lo:n<=mb/\n<=bb/\n<=gb
 ne:mb≠bb/\mb≠gb/\bb≠gb
 hi:mb<n'/\bb<n'/\gb<n'
 same:∀b,b<n->m' b=m b
 mask:∀b,b<n->Nat.testBit w b=false
 wr:Nat.testBit w mb=true/\Nat.testBit w bb=true
 g:m' gb=some (.cells [.int .i64 60,.int .i64 5,.int .i64 2,.int .i64 3,.int .i64 1] 0 false true)
 mp:m' mb=some (.map (fQ (miC cs)))
 bn:m' bb=some (.cells (dD bs) 4 false true)
 bi:BP bs
 fnd:Fnd X 90 cs
def PaQ(m:FM)(n:Nat)(X:List Sec)(A:AX)(e:List Value)(m':FM)(n' w:Nat):Prop:=∃mb bb gb bs cs,PaR m n X A e m' n' w mb bb gb bs cs
theorem slc30(sb:Nat):jK 1 none (some (.int .i64 30)) (.slice (some ⟨sb,0,none⟩) 30 UNK)=some (.slice (some ⟨sb,0,none⟩) 30 UNK):=by kernel_rfl
theorem partA{m:FM}{n:Nat}(hsb:sb<n/\m sb=some (.cells svs 1 so sw))(hsl:svs.length=30)(hS:Gr m n X svs):
  Gv (dt PG EL Y xQ [gV,.slice (some ⟨sb,0,none⟩) 30 UNK,.int .i64 6] m n) (PaQ m n X):=by
 refine jf (Y:=Y) ?_
 simp only[xQ,gV]
 simp -implicitDefEqProofs (disch:=omega)only[W2,dd,Nat.testBit,Nat.reduceAdd,Nat.reduceShiftRight,Nat.reduceAnd,Nat.reduceBNe,Nat.reduceMul]
 refine di (hH _ _) fun r2=>?_
 have hmn:mnV (.int .i64 ((30:Nat):Int)) (.int .i64 (5*6))=some (.int .i64 30):=by kernel_rfl
 simp -implicitDefEqProofs (disch:=omega)only[W2,dd,Nat.testBit,Nat.reduceAdd,Nat.reduceShiftRight,Nat.reduceAnd,Nat.reduceBNe,Nat.reduceMul,KH,map_mk,show∀x y:Opd,∀(e:List Value) (m:FM) (n:Nat),dJ PG (df PG EL Y) e m n (.pur .min [x,y])=eG m n (mnV (ev e x) (ev e y))from fun _ _ _ _ _=>rfl,hmn,ol,iA,iC,Option.toList_none,Option.toList_some,List.nil_append,List.append_nil,List.all_cons,List.all_nil]
 generalize hM1:(AMem.put (AMem.put (AMem.put m n _) (n+1) _) (n+2) _:FM)=M1
 have l1:∀b,b<n->M1 b=m b:=fun b hb=>by rw[<-hM1,dc _ _ _ _ (by omega),dc _ _ _ _ (by omega),dc _ _ _ _ (by omega)]
 have k0:M1 n=some (.cells [.int .i64 60,.int .i64 5,.int .i64 2,.int .i64 3,.int .i64 1] 0 false true):=by rw[<-hM1,dc _ _ _ _ (by omega),dc _ _ _ _ (by omega)];exact de _ _ _
 have k1:M1 (n+1)=some (.cells (dD jo) 4 false true):=by rw[<-hM1,dc _ _ _ _ (by omega)];exact de _ _ _
 have k2:M1 (n+2)=some (.map (fQ (miC []))):=by rw[<-hM1];exact de _ _ _
 have ksb:=(l1 sb hsb.1).trans hsb.2
 have hsl2:kP M1 (n+3) 1 (jK 1 none (some (.int .i64 30)) (.slice (some ⟨sb,0,none⟩) 30 UNK)) (.slice (some ⟨sb,0,none⟩) 30 UNK)=lP M1 (n+3) sb (some (.slice (some ⟨sb,0,none⟩) 30 UNK)):=by
  rw[tK,slc30,eS (by omega),ksb]
  rfl
 rw[hsl2]
 clear hM1
 simp -implicitDefEqProofs (disch:=omega)only[W2,dd,Nat.testBit,Nat.reduceAdd,Nat.reduceShiftRight,Nat.reduceAnd,Nat.reduceBNe,Nat.reduceMul]
 have hB0:BP jo:=⟨rfl,fun b hb=>by
  rw[List.eq_of_mem_replicate hb]
  exact⟨Nat.zero_le _,rfl,Int.le_refl _,by decide,rfl⟩⟩
 have hS1:Gr M1 n X svs:=fun j v hv=>by
  rcases hS j v hv with h|⟨r,b,o,w,h1,h2,h3,h4,h5⟩
  ·exact .inl h
  ·exact .inr ⟨r,b,o,w,h1,h2,h3,h4,(l1 b h4).trans h5⟩
 refine dS ((KS (n0:=n) (sb:=sb) (mb:=n+2) (bb:=n+1) (gb:=n) (M0:=M1) (X:=X) (svs:=svs) (cp:=UNK) ⟨hsb.1,ksb⟩ hsl hS1 (by omega) (by omega) (by omega) (by omega) _ _ _ _ _ (fun x1 M N w bs cs q1 q2 q3 q4 q5 q6 q7 q8 q9 q10=>?_) 30 0 rfl _ M1 (n+3) 0 jo [] (by omega) (by omega) (by omega) (fun _ _=>rfl) (fun b _=>Nat.zero_testBit _) k0 k2 k1 hB0 (Fnd.nil X)).mono fun X e m' n' w hq=>by simpa only[dx]using hq)
 intro rr
 simp -implicitDefEqProofs (disch:=omega)only[W2,dd,Nat.testBit,Nat.reduceAdd,Nat.reduceShiftRight,Nat.reduceAnd,Nat.reduceBNe,Nat.reduceMul]
 refine⟨n+2,n+1,n,bs,cs,rfl,⟨_,_,_,_,_,_,_,rfl⟩,by omega,by omega,by omega,fun b hb=>(q4 b hb).trans (l1 b hb),fun b hb=>?_,⟨?_,?_⟩,q6,q7,q8,q9,q10⟩
 ·simp only[c9,dh (show b≠n by omega),dh (show b≠n+1 by omega),dh (show b≠n+2 by omega),q5 b hb];rfl
 ·simp only[c9,dn];simp
 ·simp only[c9,dn];simp
theorem KI(x:Value)(e:List Value)(m:FM)(n:Nat):qO Y x e m n=dt PG EL Y (.seq (.reg yu) sO) (x::e) m n:=by
 rw[ME,MG];rfl
def kh(bs:List Bnd)(c:eF):List Bnd:=bs.modify ((c.2-60) / 6) fun b=>{b with live:=b.live+1}
theorem BI(bs:List Bnd)(c:eF):(kh bs c).length=bs.length:=by simp[kh]
theorem I7{c:eF}(h:(c.2-60) / 6<bs.length):kh bs c=bs.set ((c.2-60) / 6) {bs[(c.2-60) / 6]with live:=bs[(c.2-60) / 6].live+1}:=by
 apply List.ext_getElem?
 intro j
 rw[kh,List.getElem?_modify,List.getElem?_set]
 by_cases hj:(c.2-60) / 6=j
 ·subst hj
  simp[h]
 ·simp[hj]
theorem Gq(bs:List Bnd)(c d:eF):kh (kh bs c) d=kh (kh bs d) c:=by
 apply List.ext_getElem?
 intro j
 simp only[kh,List.getElem?_modify]
 cases bs[j]? with
 |none=>simp
 |some b=>by_cases h1:(c.2-60) / 6=j<;>by_cases h2:(d.2-60) / 6=j<;>simp[h1,h2]
theorem I2{sz:Nat}{Nf bytes:Nat}{v:Value}{len:Nat}{cs zs:List Value}(h:SlZ sz M n0 Nf v len cs)(hNf:Nf<=N)(ya:Option Addr)(yc ry:Nat)(h0:n0<=N)(hsz:0<sz)(hzl:zs.length=sz)(hz:zs.all Am.one=true)(hby:0<bytes)(hl:(len+1)*bytes<=140737488355328):
  Rt (jq sz bytes M N v (.slice ya 1 yc) (shown M N sz v) (some (zs,ry))) fun v' M' N' w=>AppZ sz M n0 N (len+1) (cs++zs) v' M' N' w/\∀k,Nf<=k->k<N->M' k=M k:=by
 rcases h with⟨rfl,rfl,rfl⟩|⟨hp,hcl,b,rfl,hb,hbN,hM⟩
 ·rw[gJ,fF,fy]
  have hl':(0+1)*bytes<=140737488355328:=by simpa using hl
  rw[show(zs,ry).1.all Am.one=true from hz,dC hsz,dC hby,ep hl',iK (by omega)]
  exact⟨⟨rfl,rfl,.inr ⟨by omega,by simp[hzl],N,rfl,h0,by omega,de _ _ _⟩,fun b hb=>dc _ _ _ _ (by omega),fun j hj=>dE (by omega)⟩,fun k h1 h2=>dc _ _ _ _ (by omega)⟩
 ·rw[fZ hp,eS (by omega),hM,gd,Nat.beq_refl,eU,gr,fw hcl.symm]
  show Rt (jq sz bytes M N _ _ (some (cs,bit b)) _) _
  rw[fF,fy]
  rw[show(zs,ry).1.all Am.one=true from hz,dC hsz,dC hby,ep hl,iJ,eS (by omega),hM,jz]
  exact⟨⟨rfl,rfl,.inr ⟨by omega,by rw[List.length_append,hcl,hzl,Nat.add_mul,Nat.one_mul],N,rfl,h0,by omega,de _ _ _⟩,fun k hk=>by rw[dc _ _ _ _ (by omega),dc _ _ _ _ (by omega)],fun j hj=>by rw[eL];exact⟨dE (by omega),dE (by omega)⟩⟩,fun k h1 h2=>by rw[dc _ _ _ _ (by omega),dc _ _ _ _ (by omega)]⟩
structure RoR(n0 bb:Nat)(M:FM)(N k:Nat)(cells:List Value)(bs:List Bnd)(c:eF)(tl:List Value)(A:AX)(e':List Value)(M':FM)(N' w:Nat)(fv':Value):Prop where
 norm:A=.norm
 env:e'=fv'::tl
 fnd:SlZ 12 M' n0 N' fv' (k+1) (cells++ed c)
 bn:M' bb=some (.cells (dD (kh bs c)) 4 false true)
 same:∀b,b<n0->b≠bb->M' b=M b
 mask:∀b,b<n0->b≠bb->Nat.testBit w b=false
 le:N<=N'
def RoQ(n0 bb:Nat)(M:FM)(N k:Nat)(cells:List Value)(bs:List Bnd)(c:eF)(tl:List Value)(A:AX)(e':List Value)(M':FM)(N' w:Nat):Prop:=∃fv',RoR n0 bb M N k cells bs c tl A e' M' N' w fv'
theorem B9{k:Nat}{cells:List Value}{c:eF}{fv:Value}(hbb:bb<n0)(hgb:gb<n0/\gb≠bb)(hN:n0<=N)(hg:M gb=some (.cells [.int .i64 60,.int .i64 5,.int .i64 2,.int .i64 3,.int .i64 1] 0 false true))(hb:M bb=some (.cells (dD bs) 4 false true))(hf:SlZ 12 M n0 N fv k cells)
  (hok:c.1.Ok) (ha:60<=c.2/\c.2<90) (hbl:bs.length=5) (hlv:∀b∈bs,b.live<=100) (hk:k<=6) (x1 x2 x3 x4 x6 x8 x9 x11 x12 x13 x14:Value):
  Gv (qO Y (gY c) [fv,x1,x2,x3,x4,.slice (some ⟨bb,0,none⟩) 5 5,x6,.int .i64 6,x8,x9,.pointer (some ⟨gb,0,none⟩),x11,x12,x13,x14] M N)
   (RoQ n0 bb M N k cells bs c [x1,x2,x3,x4,.slice (some ⟨bb,0,none⟩) 5 5,x6,.int .i64 6,x8,x9,.pointer (some ⟨gb,0,none⟩),x11,x12,x13,x14]):=by
 rw[KI]
 obtain⟨r,a⟩:=c
 obtain⟨ha1,ha2⟩:=ha
 obtain⟨hg1,hg2⟩:=hgb
 simp only at hok ha1 ha2
 obtain⟨d0,d1,d2,d3,d4,d5,d6,d7,hrc⟩:=iT hok
 have hcv:gY (r,a)=.agg #[.int .i64 (r.kd:Int),.int .i64 (r.blk:Int),.int .u64 (r.ver:Int),.int .u8 (d0:Int),.int .u8 (d1:Int),.int .u8 (d2:Int),.int .u8 (d3:Int),.int .u8 (d4:Int),.int .u8 (d5:Int),.int .u8 (d6:Int),.int .u8 (d7:Int),.int .i64 (a:Int),.int .u64 (r.tm:Int)]:=by simp only[gY,xG,ed,hrc,List.cons_append,List.nil_append]
 have hfc:ed (r,a)=[.int .i64 (r.kd:Int),.int .i64 (r.blk:Int),.int .u64 (r.ver:Int),.int .u8 (d0:Int),.int .u8 (d1:Int),.int .u8 (d2:Int),.int .u8 (d3:Int),.int .u8 (d4:Int),.int .u8 (d5:Int),.int .u8 (d6:Int),.int .u8 (d7:Int),.int .i64 (a:Int)]:=by simp only[ed,hrc,List.cons_append,List.nil_append]
 rw[hcv]
 refine jf (Y:=Y) ?_
 simp only[sO,yu]
 simp -implicitDefEqProofs (disch:=omega)only[W2,dd,Nat.testBit,Nat.reduceAdd,Nat.reduceShiftRight,Nat.reduceAnd,Nat.reduceBNe,Nat.reduceMul]
 generalize hM1:(AMem.put (AMem.put M N _) (N+1) _:FM)=M1
 have l1:∀b,b<N->M1 b=M b:=fun b hb=>by rw[<-hM1,dc _ _ _ _ (by omega),dc _ _ _ _ (by omega)]
 have k1:M1 N=some (.cells [.int .i64 (r.kd:Int),.int .i64 (r.blk:Int),.int .u64 (r.ver:Int),.int .u8 (d0:Int),.int .u8 (d1:Int),.int .u8 (d2:Int),.int .u8 (d3:Int),.int .u8 (d4:Int),.int .u8 (d5:Int),.int .u8 (d6:Int),.int .u8 (d7:Int),.int .i64 (a:Int),.int .u64 (r.tm:Int)] 0 false true):=by rw[<-hM1,dc _ _ _ _ (by omega)];exact de _ _ _
 clear hM1
 have hS1:SlZ 12 M1 n0 N fv k cells:=hf.frame (Nat.le_refl _) fun b _ h2=>l1 b h2
 refine dw (I2 (sz:=12) (bytes:=40) (zs:=[.int .i64 (r.kd:Int),.int .i64 (r.blk:Int),.int .u64 (r.ver:Int),.int .u8 (d0:Int),.int .u8 (d1:Int),.int .u8 (d2:Int),.int .u8 (d3:Int),.int .u8 (d4:Int),.int .u8 (d5:Int),.int .u8 (d6:Int),.int .u8 (d7:Int),.int .i64 (a:Int)]) hS1 (by omega) _ _ _ (by omega) (by omega) rfl rfl (by omega) (by omega)) fun v1 M2 N2 r1 w1 hh=>?_
 obtain⟨⟨hv1,hn1,hs1,hl1,hw1⟩,hl2⟩:=hh
 subst hn1
 have hq5:(a-60) / 6<5:=by omega
 have hixb:fU 4 ((a-60) / 6) (.slice (some ⟨bb,0,none⟩) 5 5)=some (.pointer (some ⟨bb,(a-60) / 6*4,none⟩)):=by rw[eY hq5,Nat.zero_add]
 obtain⟨c1,c2,c3,c4,c5⟩:=eM (l:=bs) (j:=(a-60) / 6) (by omega)
 obtain⟨s1,s2,s3⟩:=jc (l:=bs) (k:=(a-60) / 6) (by omega)
 have hlq:=hlv _ (List.getElem_mem (show(a-60) / 6<bs.length by omega))
 have p1:=(hl2 N (Nat.le_refl _) (by omega)).trans k1
 have p2:=(hl1 bb hbb).trans ((l1 bb (by omega)).trans hb)
 have p3:=(hl1 gb hg1).trans ((l1 gb (by omega)).trans hg)
 have ho1:=hs1.one
 simp -implicitDefEqProofs (disch:=omega)only[W2,dd,Nat.testBit,Nat.reduceAdd,Nat.reduceShiftRight,Nat.reduceAnd,Nat.reduceBNe,Nat.reduceMul,p1,p2,p3,hixb,c3,s2]
 refine⟨v1,rfl,rfl,?_,?_,fun b h1 h2=>?_,fun b h1 h2=>?_,by omega⟩
 ·rw[hfc]
  exact hs1.frame (Nat.le_refl _) fun b h1 h2=>dc _ _ _ _ (by omega)
 ·rw[I7 (show((r,a).2-60) / 6<bs.length by show(a-60) / 6<bs.length;omega)]
  exact de _ _ _
 ·rw[dc _ _ _ _ h2,hl1 b h1,l1 b (by omega)]
 ·simp only[c9,dh (show b≠N by omega),dh (show b≠N+1 by omega),dK (hw1 n0 (Nat.le_refl _)) b h1,dh h2];rfl
open Go Go.Am Classical
def Ih(c:eF):Value×Value:=(.int .i64 (c.1.blk:Int),gY c)
theorem K5(cs:List eF):fQ (miC cs)=cs.map Ih:=by rw[fQ,miC,List.map_map];rfl
theorem Hm{α β:Type}{g:α->β}{l l':List β}(h:l.Perm l'):∀cs:List α,l'=cs.map g->∃ds:List α,ds.Perm cs/\l=ds.map g:=by
 induction h with
 |nil=>intro cs h;exact⟨cs,List.Perm.refl _,h⟩
 |cons x _ ih=>
  intro cs h
  cases cs with
  |nil=>cases h
  |cons c cs=>
   rw[List.map_cons]at h
   injection h with h1 h2
   obtain⟨ds,p,rfl⟩:=ih cs h2
   exact⟨c::ds,p.cons c,by rw[h1];rfl⟩
 |swap x y l=>
  intro cs h
  match cs,h with
  |[],h=>cases h
  |[_],h=>cases h
  |c::d::cs,h=>
   rw[List.map_cons,List.map_cons]at h
   injection h with h1 h2
   injection h2 with h2 h3
   exact⟨d::c::cs,List.Perm.swap _ _ _,by rw[h1,h2,h3];rfl⟩
 |trans _ _ ih1 ih2=>
  intro cs h
  obtain⟨ds,p,h2⟩:=ih2 cs h
  obtain⟨es,q,h3⟩:=ih1 ds h2
  exact⟨es,q.trans p,h3⟩
theorem Gp{c:eF}{b:Bnd}(h:b∈kh bs c):∃b0∈bs,b.live<=b0.live+1:=by
 obtain⟨j,hj⟩:=List.mem_iff_getElem?.1 h
 rw[kh,List.getElem?_modify]at hj
 cases hb:bs[j]? with
 |none=>rw[hb]at hj;cases hj
 |some b0=>
  rw[hb]at hj
  have hj:some (if(c.2-60) / 6=j then{b0 with live:=b0.live+1}else b0)=some b:=hj
  injection hj with hj
  refine⟨b0,List.mem_of_getElem? hb,?_⟩
  rw[<-hj]
  split
  ·exact Nat.le_refl _
  ·omega
structure FoR(n0 bb:Nat)(M:FM)(N k:Nat)(cells:List Value)(bs:List Bnd)(ds:List eF)(tl:List Value)(A:AX)(e':List Value)(M':FM)(N' w:Nat)(fv':Value):Prop where
 norm:A=.norm
 env:e'=fv'::tl
 fnd:SlZ 12 M' n0 N' fv' (k+ds.length) (cells++ds.flatMap ed)
 bn:M' bb=some (.cells (dD (ds.foldl kh bs)) 4 false true)
 same:∀b,b<n0->b≠bb->M' b=M b
 mask:∀b,b<n0->b≠bb->Nat.testBit w b=false
 le:N<=N'
theorem xi{n0 bb gb mb nI:Nat}(hbb:bb<n0)(hgb:gb<n0/\gb≠bb)(hmb:mb<n0/\mb≠bb)(x1 x2 x3 x4 x6 x8 x9 x11 x12 x13:Value):∀(ds:List eF) (M:FM) (N k:Nat) (cells:List Value) (bs:List Bnd) (fv:Value),n0<=N->M gb=some (.cells [.int .i64 60,.int .i64 5,.int .i64 2,.int .i64 3,.int .i64 1] 0 false true)->M bb=some (.cells (dD bs) 4 false true)->SlZ 12 M n0 N fv k cells->(∀c∈ds,c.1.Ok/\60<=c.2/\c.2<90)->bs.length=5->(∀b∈bs,b.live+ds.length<=100)->k+ds.length<=6->
  ∃A e' M' N' r w fv',gv Y mb nI (ds.map Ih) (fv::[x1,x2,x3,x4,.slice (some ⟨bb,0,none⟩) 5 5,x6,.int .i64 6,x8,x9,.pointer (some ⟨gb,0,none⟩),x11,x12,x13,iU nI]) M N=.ok A e' M' N' r w/\FoR n0 bb M N k cells bs ds [x1,x2,x3,x4,.slice (some ⟨bb,0,none⟩) 5 5,x6,.int .i64 6,x8,x9,.pointer (some ⟨gb,0,none⟩),x11,x12,x13,iU nI] A e' M' N' w fv'
 |[],M,N,k,cells,bs,fv,hN,hg,hb,hf,_,_,_,_=>⟨.norm,_,M,N,0,0,fv,rfl,rfl,rfl,by simpa using hf,hb,fun _ _ _=>rfl,fun b _ _=>Nat.zero_testBit _,Nat.le_refl _⟩
 |c::ds,M,N,k,cells,bs,fv,hN,hg,hb,hf,hds,hbl,hlv,hk=>by
  obtain⟨hc1,hc2⟩:=hds c List.mem_cons_self
  rw[List.length_cons]at hlv hk
  have h1:=B9 (Y:=Y) hbb hgb hN hg hb hf hc1 hc2 hbl (fun b hb=>by have:=hlv b hb;omega) (by omega) x1 x2 x3 x4 x6 x8 x9 x11 x12 x13 (iU nI)
  obtain⟨A,e1,M1,N1,r1,w1,hr,fv1,q1,q2,q3,q4,q5,q6,q7⟩:=fX h1
  subst q1;subst q2
  obtain⟨A,e2,M2,N2,r2,w2,fv2,hr2,p1,p2,p3,p4,p5,p6,p7⟩:=xi hbb hgb hmb x1 x2 x3 x4 x6 x8 x9 x11 x12 x13 ds M1 N1 (k+1) (cells++ed c) (kh bs c) fv1 (by omega) ((q5 gb hgb.1 hgb.2).trans hg) q4 q3 (fun d hd=>hds d (List.mem_cons_of_mem _ hd)) (by rw[BI];exact hbl) (fun b hb=>by
   obtain⟨b0,g1,g2⟩:=Gp hb
   have:=hlv b0 g1
   omega) (by omega)
  subst p1;subst p2
  refine⟨.norm,_,M2,N2,Nat.lor r1 r2,Nat.lor w1 w2,fv2,?_,rfl,rfl,?_,p4,fun b h1 h2=>(p5 b h1 h2).trans (q5 b h1 h2),fun b h1 h2=>by rw[c9,q6 b h1 h2,p6 b h1 h2];rfl,by omega⟩
  ·show jJ mb nI (gv Y mb nI (ds.map Ih)) (qO Y (gY c) _ M N)=_
   rw[hr]
   show(if w1.testBit mb=false/\_ then fP r1 w1 (gv Y mb nI (ds.map Ih) _ M1 N1)else .no)=_
   rw[if_pos ⟨q6 mb hmb.1 hmb.2,rfl⟩,hr2]
   rfl
  ·have e1:k+(c::ds).length=k+1+ds.length:=by rw[List.length_cons];omega
   have e2:cells++(c::ds).flatMap ed=cells++ed c++ds.flatMap ed:=by rw[List.flatMap_cons,List.append_assoc]
   rw[e1,e2]
   exact p3
end Go.Am.CD
